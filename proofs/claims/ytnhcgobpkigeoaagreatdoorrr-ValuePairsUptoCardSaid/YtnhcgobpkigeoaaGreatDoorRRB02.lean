/- The walks of lex.IsKey, lex.IsName, of the reference's word, IsKey, IsName: one plain function each, the same on both sides. What a call holds in memory: resources, each of its own blocks, no two of them with a block in common. The lexer's contracts of library calls, in the words of the plain lexer; what an error is in memory. -/
import Derived.Test.YtnhcgobpkigeoaaGreatDoorRRB01
import Derived.Test.YtnhcgobpkigeoaaGreatDoorRRB00
import Derived.Test.YtnhcgobpkigeoaaGreatDoorRRShelf
import Derived.WalkSmall
import Derived.RangeFuncBox
import Derived.RangeFuncOwn
import Derived.Shelf.Strings.SlTrimAscii
import Derived.Lib.Index
set_option linter.unusedVariables false
namespace Go.Tre
/-- the library's variable holds a number -/
def MaxAt (w : World) : Prop := ∃ m, w.cell? ⟨3, 0, none⟩ = some (.int .i64 m)
theorem MaxAt.below {w w' : World} (h : MaxAt w) (hb : RowKit.Below w.heap.size w w') : MaxAt w' := by
  obtain ⟨m, hm⟩ := h
  exact ⟨m, cell_below hb hm⟩
def isName (s : ByteArray) : Bool := decide (s.size ≠ 0) && decide (s.size ≤ 100) && decide (wordLen s = s.size) && !isKey s
end Go.Tre
namespace Go.Proofs.YtnhcgobpkigeoaaGreatDoorRR.lex
open Go.RowKit Go.Tre

theorem contains (s sub : ByteArray) (r : Bool) (w : World) (hs : s.size < 4294967281) (hm : MaxAt w) (hr : Lib.contains s.data.toList sub.data.toList = r) :
    Calls Tryz.prog 52 #[.string s, .string sub] w fun e w' => e = .returned (.bool r) ∧ w = w' := by
  obtain ⟨m, hm⟩ := hm
  refine (Tryz.strings_Contains s sub m w hs hm).mono ?_
  rintro e w' ⟨rfl, hw⟩
  exact ⟨by rw [hr], hw.symm⟩

theorem isKey_blank {s : ByteArray} (h : (32 : UInt8) ∈ s.data.toList) : isKey s = false := by
  unfold isKey
  rw [← Bool.not_eq_true, List.contains_iff_mem]
  exact fun hm => keyWords_no _ hm _ h rfl
theorem toList_empty {s : ByteArray} : s.data.toList = [] ↔ s.size = 0 := by
  rw [← List.length_eq_zero_iff]; simp
theorem isKey_empty {s : ByteArray} (h : s.size = 0) : isKey s = false := by
  unfold isKey
  rw [toList_empty.2 h]
  decide
theorem app3 (s : ByteArray) : ((⟨#[32]⟩ : ByteArray) ++ s ++ ⟨#[32]⟩).data.toList = 32 :: (s.data.toList ++ [32]) := by
  simp [ByteArray.data_append]

theorem emp1 {s : ByteArray} (h : s.size = 0) : s.toList.isEmpty = true := by rw [ByteArray.toList_eq, toList_empty.2 h]; rfl
theorem emp0 {s : ByteArray} (h : ¬ s.size = 0) : s.toList.isEmpty = false := by
  rw [ByteArray.toList_eq]
  cases hl : s.data.toList with
  | nil => exact absurd (toList_empty.1 hl) h
  | cons a l => rfl
theorem keysText (s : ByteArray) (h : ¬ (32 : UInt8) ∈ s.data.toList) (h0 : ¬ s.size = 0) (K : List UInt8) (hK : K = spaced keyWords) : Lib.contains K ((⟨#[32]⟩ : ByteArray) ++ s ++ ⟨#[32]⟩).data.toList = isKey s := by
  rw [hK, app3]
  exact contains_keys _ h (fun e => h0 (toList_empty.1 e))

set_option maxHeartbeats 1000000 in
theorem isKey_any (s : ByteArray) (w : World) (hs : s.size ≤ 8388608) (hm : MaxAt w) :
    Calls Tryz.prog 32 #[.string s] w fun e w' => e = .returned (.bool (isKey s)) ∧ w = w' := by
  by_cases h0 : s.size = 0
  · have H := Tre.hid (isKey_empty h0)
    have e0 := emp1 h0
    have e1 : (!s.toList.isEmpty) = false := by rw [e0]; rfl
    clear h0
    go_enter Tryz.func32, Tryz.ntmps32
    go_wp2_with fail
    go_ret
    exact ⟨ret_bool H.out.symm, rfl⟩
  · have e0 := emp0 h0
    have e1 : (!s.toList.isEmpty) = true := by rw [e0]; rfl
    have hc := contains_blank s.data.toList
    by_cases hb : (32 : UInt8) ∈ s.data.toList
    · have H := Tre.hid (isKey_blank hb)
      have C : Hid (Lib.contains s.data.toList [32] = true) := by show _ = _; rw [hc]; simp [hb]
      clear hc hb h0
      go_enter Tryz.func32, Tryz.ntmps32
      go_wp2_with fail
      refine (contains s _ true _ (by omega) hm C.out).mono ?_
      rintro e w' ⟨rfl, rfl⟩
      go_wp2_with fail
      go_ret
      exact ⟨ret_bool H.out.symm, rfl⟩
    · have C : Hid (Lib.contains s.data.toList [32] = false) := by show _ = _; rw [hc]; simp [hb]
      have KT := Tre.hid (keysText s hb h0)
      clear hc hb h0
      go_enter Tryz.func32, Tryz.ntmps32
      go_wp2_with fail
      refine (contains s _ false _ (by omega) hm C.out).mono ?_
      rintro e w' ⟨rfl, rfl⟩
      go_wp2_with fail
      refine (contains _ _ (isKey s) _ ?_ hm (KT.out _ ?_)).mono ?_
      · decide
      · decide
      rintro e w' ⟨rfl, rfl⟩
      go_wp2_with fail
      go_ret
      exact ⟨rfl, rfl⟩

theorem isName_of {s : ByteArray} {b : Bool} (h : (decide (s.size ≠ 0) && decide (s.size ≤ 100) && decide (wordLen s = s.size) && !isKey s) = b) : isName s = b := h
theorem wordFrom_le : ∀ (l : List UInt8) (b : Bool), wordFrom b l ≤ l.length
  | [], _ => Nat.le_refl _
  | c :: r, b => by
    unfold wordFrom
    split
    · have := wordFrom_le r false; simp; omega
    · simp
theorem wordLen_le (s : ByteArray) : wordLen s ≤ s.size := by have := wordFrom_le s.data.toList true; simpa [wordLen] using this

theorem b0 (u : UInt8) : (0 : Int) ≤ u.toNat := Int.natCast_nonneg _
theorem b255 (u : UInt8) : (u.toNat : Int) ≤ 255 := by have := u.toNat_lt; omega
/-! the reference's -/
end Go.Proofs.YtnhcgobpkigeoaaGreatDoorRR.lex
namespace Go.Tre
open Go.RowKit Go.Maps

/-- A resource: which blocks are its own, what it says of the world; it says so in any world where these are as they were. -/
structure Res where
  own : Nat → Prop
  P : World → Prop
  stable : ∀ w w' : World, P w → (∀ b, own b → w'.heap[b]? = w.heap[b]?) → P w'
  has : ∀ w : World, P w → ∀ b, own b → b < w.heap.size

/-- What has been done since w0: old blocks are as they were; the resources rs are held, apart from each other, in new blocks. -/
structure Mem (w0 w : World) (rs : List Res) : Prop where
  below : Below w0.heap.size w0 w
  all : ∀ r ∈ rs, r.P w ∧ ∀ b, r.own b → w0.heap.size ≤ b
  sep : rs.Pairwise fun r s => ∀ b, r.own b → ¬ s.own b

section
variable {w0 w w' : World} {rs : List Res} {r r' : Res}

theorem Mem.size (h : Mem w0 w rs) : w0.heap.size ≤ w.heap.size := h.below.size
theorem Mem.nil (w : World) : Mem w w [] := ⟨Below.refl _ _, by simp, by simp⟩
theorem Mem.of_below (h : Below w0.heap.size w0 w) : Mem w0 w [] := ⟨h, by simp, by simp⟩
theorem Mem.perm {ss : List Res} (h : Mem w0 w rs) (p : rs.Perm ss) : Mem w0 w ss :=
  ⟨h.below, fun r hr => h.all r (p.mem_iff.2 hr), (p.pairwise_iff (fun hxy b hb hx => hxy b hx hb)).1 h.sep⟩
theorem Mem.drop1 (h : Mem w0 w (r :: rs)) : Mem w0 w rs := ⟨h.below, fun s hs => h.all s (by simp [hs]), (List.pairwise_cons.1 h.sep).2⟩
theorem Mem.none_ (h : Mem w0 w rs) : Mem w0 w [] := ⟨h.below, by simp, by simp⟩
theorem Mem.sub {ss : List Res} (h : Mem w0 w rs) (s : ss.Sublist rs) : Mem w0 w ss := ⟨h.below, fun r hr => h.all r (s.subset hr), h.sep.sublist s⟩

/-- the resource at a place -/
theorem Mem.at_ (h : Mem w0 w rs) (i : Nat) (hi : rs[i]? = some r) : r.P w := (h.all r (List.mem_of_getElem? hi)).1
theorem Mem.lo (h : Mem w0 w rs) (i : Nat) (hi : rs[i]? = some r) : ∀ b, r.own b → w0.heap.size ≤ b := (h.all r (List.mem_of_getElem? hi)).2

/-- no resource is written, blocks come -/
theorem Mem.keep (h : Mem w0 w rs) (hg : w.grownBy w' none) : Mem w0 w' rs :=
  ⟨h.below.grown hg h.below.size (fun k e => by cases e), fun r hr => ⟨r.stable _ _ (h.all r hr).1 (fun b hb => hg.block b (r.has _ (h.all r hr).1 b hb) (by simp)), (h.all r hr).2⟩, h.sep⟩
theorem Mem.alloc (h : Mem w0 w rs) (o : Obj) : Mem w0 (w.alloc o) rs := h.keep (World.grownBy_alloc w o none)
theorem Mem.drew (h : Mem w0 w rs) : Mem w0 w.drew rs := h.keep ⟨rfl, rfl, rfl, Nat.le_refl _, fun _ _ _ => rfl⟩
theorem Mem.drewN (h : Mem w0 w rs) (n : Nat) : Mem w0 (w.drewN n) rs := h.keep ⟨rfl, rfl, rfl, Nat.le_refl _, fun _ _ _ => rfl⟩
theorem grown_below {w w' : World} (h : Below w.heap.size w w') : w.grownBy w' none := ⟨h.os, h.tape, h.output, h.size, fun k hk _ => h.block k hk⟩
theorem Mem.quiet (h : Mem w0 w rs) (k : Below w.heap.size w w') : Mem w0 w' rs := h.keep (grown_below k)
/-- a call -/
theorem Mem.call {ss : List Res} (h : Mem w0 w rs) (k : Mem w w' ss) : Mem w0 w' (ss ++ rs) := by
  have h' := h.quiet k.below
  refine ⟨h'.below, fun r hr => ?_, List.pairwise_append.2 ⟨k.sep, h.sep, fun a ha b hb c hc hcb => ?_⟩⟩
  · rcases List.mem_append.1 hr with hr | hr
    · exact ⟨(k.all r hr).1, fun b hb => Nat.le_trans h.size ((k.all r hr).2 b hb)⟩
    · exact h'.all r hr
  · have h1 := (k.all a ha).2 c hc
    have h2 := b.has _ (h.all b hb).1 c hcb
    omega
/-- a resource comes, of new blocks -/
theorem Mem.add (h : Mem w0 w rs) (hg : w.grownBy w' none) (r : Res) (hP : r.P w') (hb : ∀ b, r.own b → w.heap.size ≤ b) : Mem w0 w' (r :: rs) := by
  have h' := h.keep hg
  refine ⟨h'.below, fun s hs => ?_, List.pairwise_cons.2 ⟨fun s hs b hb' hs' => ?_, h.sep⟩⟩
  · rcases List.mem_cons.1 hs with rfl | hs
    · exact ⟨hP, fun b hb' => Nat.le_trans h.size (hb b hb')⟩
    · exact h'.all s hs
  · have h1 := hb b hb'
    have h2 := s.has _ (h.all s hs).1 b hs'
    omega
theorem Mem.hd (h : Mem w0 w (r :: rs)) : r.P w := (h.all r (by simp)).1
/-- the first resource is written -/
theorem Mem.upd (h : Mem w0 w (r :: rs)) (hs : w.heap.size ≤ w'.heap.size) (ho : w'.os = w.os ∧ w'.tape = w.tape ∧ w'.output = w.output) (hg : ∀ k, k < w.heap.size → ¬ r.own k → w'.heap[k]? = w.heap[k]?) (r' : Res) (hP : r'.P w') (hb : ∀ b, r'.own b → r.own b ∨ w.heap.size ≤ b) : Mem w0 w' (r' :: rs) := by
  have hr := h.all r (by simp)
  have hsep := List.pairwise_cons.1 h.sep
  have hall : ∀ s ∈ rs, s.P w ∧ ∀ b, s.own b → w0.heap.size ≤ b := fun s hs => h.all s (by simp [hs])
  refine ⟨h.below.trans ⟨ho.1, ho.2.1, ho.2.2, hs, fun k hk => hg k (Nat.lt_of_lt_of_le hk h.size) (fun e => by have := hr.2 k e; omega)⟩, fun s hs => ?_, List.pairwise_cons.2 ⟨fun s hs b hb' hs' => ?_, hsep.2⟩⟩
  · rcases List.mem_cons.1 hs with rfl | hs
    · refine ⟨hP, fun b hb' => ?_⟩
      rcases hb b hb' with e | e
      · exact hr.2 b e
      · exact Nat.le_trans h.size e
    · exact ⟨s.stable _ _ (hall s hs).1 (fun b hb' => hg b (s.has _ (hall s hs).1 b hb') (fun e => hsep.1 s hs b e hb')), (hall s hs).2⟩
  · rcases hb b hb' with e | e
    · exact hsep.1 s hs b e hs'
    · have := s.has _ (hall s hs).1 b hs'
      omega

theorem perm_set (i : Nat) : ∀ {rs : List Res} {r : Res}, rs[i]? = some r → ∀ r' : Res, ∃ l : List Res, rs.Perm (r :: l) ∧ (r' :: l).Perm (rs.set i r') := by
  induction i with
  | zero =>
    intro rs r hi r'
    cases rs with
    | nil => cases hi
    | cons a l => simp at hi; subst hi; exact ⟨l, List.Perm.refl _, List.Perm.refl _⟩
  | succ i ih =>
    intro rs r hi r'
    cases rs with
    | nil => cases hi
    | cons a l =>
      simp at hi
      obtain ⟨l', h1, h2⟩ := ih hi r'
      exact ⟨a :: l', (List.Perm.cons a h1).trans (List.Perm.swap r a l'), (List.Perm.swap a r' l').trans (List.Perm.cons a h2)⟩
/-- a resource is written, in its own blocks or in new ones -/
theorem Mem.set (h : Mem w0 w rs) (i : Nat) (hi : rs[i]? = some r) (hs : w.heap.size ≤ w'.heap.size) (ho : w'.os = w.os ∧ w'.tape = w.tape ∧ w'.output = w.output) (hg : ∀ k, k < w.heap.size → ¬ r.own k → w'.heap[k]? = w.heap[k]?) (r' : Res) (hP : r'.P w')
    (hb : ∀ b, r'.own b → r.own b ∨ w.heap.size ≤ b) : Mem w0 w' (rs.set i r') := by
  obtain ⟨l, h1, h2⟩ := perm_set i hi r'
  exact ((h.perm h1).upd hs ho hg r' hP hb).perm h2
theorem Mem.set_row {row : Option Nat} (h : Mem w0 w rs) (i : Nat) (hi : rs[i]? = some r) (hg : w.grownBy w' row) (hr : ∀ k, row = some k → r.own k) (r' : Res) (hP : r'.P w') (hb : ∀ b, r'.own b → r.own b ∨ w.heap.size ≤ b) : Mem w0 w' (rs.set i r') :=
  h.set i hi hg.size ⟨hg.os, hg.tape, hg.output⟩ (fun k hk hn => hg.block k hk (fun e => hn (hr k e.symm))) r' hP hb

/-! the resources -/
/-- a slice that was made, and its row -/
def rowR (e : TypeId) (size : Nat) (v : Value) (n : Nat) (xs : List Value) : Res where
  own b := v.ownBlock = some b
  P w := w.ownsRow 0 e size v n xs
  stable w w' h hs := by
    refine ⟨h.1, ?_⟩
    rcases h.2 with hn | ⟨g, cap, cur, rfl, hb, hgg, rest⟩
    · exact .inl hn
    · exact .inr ⟨g, cap, cur, rfl, hb, (hs g rfl).trans hgg, rest⟩
  has w h b hb := (h.lt b hb).2
/-- a block of cells -/
def cellsR (b : Nat) (t : TypeId) (cs : Array Value) : Res where
  own b' := b' = b
  P w := w.heap[b]? = some (.cells cs t (0, 0))
  stable w w' h hs := (hs b rfl).trans h
  has w h b' hb := by subst hb; exact (Array.getElem?_eq_some_iff.1 h).1
/-- a variable's box -/
abbrev boxR (b : Nat) (t : TypeId) (v : Value) : Res := cellsR b t #[v]
/-- a map -/
def mapR {α β : Type} (P : Program) (k : TypeId) (ek : α → Value) (ev : β → Value) (b n : Nat) (m : α → Option β) : Res where
  own b' := b' = b
  P w := MapIs P k ek ev w b n m
  stable w w' h hs := h.block (hs b rfl)
  has w h b' hb := by subst hb; exact h.lt
/-- two at once -/
def Res.join (r s : Res) : Res where
  own b := r.own b ∨ s.own b
  P w := r.P w ∧ s.P w
  stable _ _ h hs := ⟨r.stable _ _ h.1 (fun b hb => hs b (.inl hb)), s.stable _ _ h.2 (fun b hb => hs b (.inr hb))⟩
  has w h b hb := hb.elim (r.has w h.1 b) (s.has w h.2 b)
/-- nothing -/
def emptyR : Res where
  own _ := False
  P _ := True
  stable _ _ _ _ := trivial
  has _ _ _ h := h.elim
theorem Mem.join (h : Mem w0 w (r :: r' :: rs)) : Mem w0 w (r.join r' :: rs) := by
  have h1 := List.pairwise_cons.1 h.sep
  have h2 := List.pairwise_cons.1 h1.2
  refine ⟨h.below, fun s hs => ?_, List.pairwise_cons.2 ⟨fun s hs b hb hs' => ?_, h2.2⟩⟩
  · rcases List.mem_cons.1 hs with rfl | hs
    · have a := h.all r (by simp)
      have c := h.all r' (by simp)
      exact ⟨⟨a.1, c.1⟩, fun b hb => hb.elim (a.2 b) (c.2 b)⟩
    · exact h.all s (by simp [hs])
  · rcases hb with hb | hb
    · exact h1.1 s (by simp [hs]) b hb hs'
    · exact h2.1 s hs b hb hs'
theorem Mem.addEmpty (h : Mem w0 w rs) : Mem w0 w (emptyR :: rs) :=
  ⟨h.below, fun s hs => by rcases List.mem_cons.1 hs with rfl | hs; exact ⟨trivial, fun b hb => hb.elim⟩; exact h.all s hs, List.pairwise_cons.2 ⟨fun _ _ _ hb _ => hb.elim, h.sep⟩⟩
/-- what a resource says may be said otherwise -/
theorem Mem.as_ (h : Mem w0 w rs) (i : Nat) (hi : rs[i]? = some r) (r' : Res) (hP : r.P w → r'.P w) (hb : ∀ b, r'.own b → r.own b) : Mem w0 w (rs.set i r') :=
  h.set i hi (Nat.le_refl _) ⟨rfl, rfl, rfl⟩ (fun _ _ _ => rfl) r' (hP (h.at_ i hi)) (fun b hb' => .inl (hb b hb'))

/-- a list of them -/
def manyR (l : List Res) : Res where
  own b := ∃ r ∈ l, r.own b
  P w := ∀ r ∈ l, r.P w
  stable w w' h hs := fun r hr => r.stable _ _ (h r hr) (fun b hb => hs b ⟨r, hr, hb⟩)
  has w h b hb := by obtain ⟨r, hr, hb⟩ := hb; exact r.has w (h r hr) b hb
theorem Mem.into {l : List Res} (h : Mem w0 w (r :: manyR l :: rs)) : Mem w0 w (manyR (l ++ [r]) :: rs) := by
  have hj := h.join
  have hr := hj.all _ (List.mem_cons_self ..)
  exact hj.as_ 0 rfl (manyR (l ++ [r])) (fun hp s hs => by
    rcases List.mem_append.1 hs with hs | hs
    · exact hp.2 s hs
    · simp at hs; subst hs; exact hp.1) (fun b hb => by
    obtain ⟨s, hs, hb⟩ := hb
    rcases List.mem_append.1 hs with hs | hs
    · exact .inr ⟨s, hs, hb⟩
    · simp at hs; subst hs; exact .inl hb)
theorem Mem.addMany (h : Mem w0 w rs) : Mem w0 w (manyR [] :: rs) :=
  ⟨h.below, fun s hs => by
    rcases List.mem_cons.1 hs with rfl | hs
    · exact ⟨fun r hr => by simp at hr, fun b hb => by obtain ⟨r, hr, _⟩ := hb; simp at hr⟩
    · exact h.all s hs, List.pairwise_cons.2 ⟨fun _ _ _ hb _ => by obtain ⟨r, hr, _⟩ := hb; simp at hr, h.sep⟩⟩

theorem perm_front : ∀ (i : Nat) {l : List Res} {r : Res}, l[i]? = some r → l.Perm (r :: l.eraseIdx i)
  | 0, [], _, h => by cases h
  | 0, a :: l, r, h => by simp at h; subst h; exact List.Perm.refl _
  | i + 1, [], _, h => by cases h
  | i + 1, a :: l, r, h => by
    simp at h
    exact (List.Perm.cons a (perm_front i h)).trans (List.Perm.swap r a _)
theorem Mem.front (h : Mem w0 w rs) (i : Nat) (hi : rs[i]? = some r) : Mem w0 w (r :: rs.eraseIdx i) :=
  h.perm (perm_front i hi)
theorem Mem.del (h : Mem w0 w rs) (i : Nat) : Mem w0 w (rs.eraseIdx i) := h.sub (List.eraseIdx_sublist ..)
/-- two rows go to the others -/
theorem Mem.push2 {a b c n : Res} {l : List Res} (h : Mem w0 w (a :: b :: c :: n :: manyR l :: rs)) : Mem w0 w (n :: manyR (l ++ [a, b]) :: rs) := by
  have h1 : Mem w0 w (a :: b :: n :: manyR l :: rs) := h.del 2
  have h2 : Mem w0 w (manyR l :: a :: b :: n :: rs) := h1.front 3 rfl
  have h3 : Mem w0 w (a :: manyR l :: b :: n :: rs) := h2.front 1 rfl
  have h4 : Mem w0 w (b :: manyR (l ++ [a]) :: n :: rs) := h3.into.front 1 rfl
  have h5 : Mem w0 w (n :: manyR ((l ++ [a]) ++ [b]) :: rs) := h4.into.front 1 rfl
  rw [List.append_assoc] at h5
  exact h5

/-! steps -/
theorem Mem.allocR (h : Mem w0 w rs) (cs : Array Value) (t : TypeId) : Mem w0 (w.alloc (.cells cs t)) (cellsR w.heap.size t cs :: rs) :=
  h.add (World.grownBy_alloc w _ none) (cellsR w.heap.size t cs) (heap_alloc_new w _) (fun _ hb => Nat.le_of_eq hb.symm)
theorem Mem.allocRow (h : Mem w0 w rs) (cs : Array Value) (e : TypeId) (size n : Nat) (hm : n ≤ maxLen) (hs : cs.size = n * size) : Mem w0 (w.alloc (.cells cs e)) (rowR e size (.slice (some ⟨w.heap.size, 0, none⟩) n n) n cs.toList :: rs) :=
  h.add (World.grownBy_alloc w _ none) (rowR e size _ n cs.toList) (World.ownsRow_lit w cs n (Nat.zero_le _) hm hs) (fun b hb => by have : some w.heap.size = some b := hb; cases this; exact Nat.le_refl _)
theorem Mem.allocMap {α β : Type} (h : Mem w0 w rs) (P : Program) (k : TypeId) (ek : α → Value) (ev : β → Value) : Mem w0 (w.alloc (.map #[] 0)) (mapR P k ek ev w.heap.size 0 (fun _ => none) :: rs) :=
  h.add (World.grownBy_alloc w _ none) (mapR P k ek ev _ _ _) (MapIs.made w P k ek ev) (fun _ hb => Nat.le_of_eq hb.symm)
theorem Mem.addNil (h : Mem w0 w rs) (e : TypeId) (size : Nat) : Mem w0 w (rowR e size (.slice none 0 0) 0 [] :: rs) :=
  h.add ⟨rfl, rfl, rfl, Nat.le_refl _, fun _ _ _ => rfl⟩ (rowR e size _ _ _) (World.ownsRow_nil w _ e size) (fun b hb => by cases hb)
theorem heap_set_at (w : World) (b i : Nat) (t : TypeId) (cs : Array Value) (u : Value) (h : w.heap[b]? = some (.cells cs t (0, 0))) : (w.setCell ⟨b, i, none⟩ u).heap[b]? = some (.cells (cs.setIfInBounds i u) t (0, 0)) := by
  simp [World.setCell, Array.getElem?_modify, h]
theorem grown_set (w : World) (b i : Nat) (u : Value) : w.grownBy (w.setCell ⟨b, i, none⟩ u) (some b) :=
  ⟨rfl, rfl, rfl, by simp [World.setCell], fun k _ hk => Below.heap_setCell w ⟨b, i, none⟩ u k (fun e => hk (by rw [e]))⟩
/-- a cell of a block -/
theorem Mem.setCell {b : Nat} {t : TypeId} {cs : Array Value} (h : Mem w0 w rs) (i : Nat) (hi : rs[i]? = some (cellsR b t cs)) (j : Nat) (u : Value) : Mem w0 (w.setCell ⟨b, j, none⟩ u) (rs.set i (cellsR b t (cs.setIfInBounds j u))) :=
  h.set_row i hi (grown_set w b j u) (fun k e => by cases e; rfl) _ (heap_set_at w b j t cs u (h.at_ i hi)) (fun b' hb => .inl hb)
/-- a cell of a row -/
theorem Mem.setRow {e : TypeId} {size n g cap : Nat} {xs : List Value} (h : Mem w0 w rs) (i : Nat) (hi : rs[i]? = some (rowR e size (.slice (some ⟨g, 0, none⟩) n cap) n xs)) (j : Nat) (u : Value) : Mem w0 (w.setCell ⟨g, j, none⟩ u) (rs.set i (rowR e size (.slice (some ⟨g, 0, none⟩) n cap) n (xs.set j u))) :=
  h.set_row i hi (grown_set w g j u) (fun k e => by cases e; rfl) _ ((h.at_ i hi : World.ownsRow _ _ _ _ _ _ _).stored j u).1 (fun b' hb => .inl hb)
/-- an append's -/
theorem Mem.grow {e : TypeId} {size n n' : Nat} {v v' : Value} {xs xs' : List Value} (h : Mem w0 w rs) (i : Nat) (hi : rs[i]? = some (rowR e size v n xs)) (hg : w.grownBy w' v.ownBlock) (hown : w'.ownsRow 0 e size v' n' xs') (hat : v'.ownBlock = v.ownBlock ∨ v'.ownBlock = some w.heap.size) :
    Mem w0 w' (rs.set i (rowR e size v' n' xs')) :=
  h.set_row i hi hg (fun k e => e) _ hown (fun b hb => by
    have hb' : v'.ownBlock = some b := hb
    rcases hat with e | e
    · exact .inl (e.symm.trans hb')
    · rw [e] at hb'; cases hb'; exact .inr (Nat.le_refl _))
/-- a map's -/
theorem Mem.put {α β : Type} {P : Program} {k : TypeId} {ek : α → Value} {ev : β → Value} {b n n' : Nat} {m m' : α → Option β} (h : Mem w0 w rs) (i : Nat) (hi : rs[i]? = some (mapR P k ek ev b n m)) (hg : w.grownBy w' (some b)) (hm : MapIs P k ek ev w' b n' m') : Mem w0 w' (rs.set i (mapR P k ek ev b n' m')) :=
  h.set_row i hi hg (fun k e => by cases e; rfl) _ hm (fun b' hb => .inl hb)
/-- a pop -/
theorem Mem.pop {e : TypeId} {size g cap n : Nat} {xs last : List Value} (h : Mem w0 w rs) (i : Nat) (hi : rs[i]? = some (rowR e size (.slice (some ⟨g, 0, none⟩) (n + 1) cap) (n + 1) (xs ++ last))) (hx : xs.length = n * size) :
    Mem w0 w (rs.set i (rowR e size (.slice (some ⟨g, 0, none⟩) n cap) n xs)) :=
  h.as_ i hi _ (fun hp => ownsRow_pop hx hp) (fun _ hb => hb)

/-! reading -/
theorem Mem.row {e : TypeId} {size n : Nat} {v : Value} {xs : List Value} (h : Mem w0 w rs) (i : Nat) (hi : rs[i]? = some (rowR e size v n xs)) : w.ownsRow 0 e size v n xs := h.at_ i hi
theorem Mem.heap {b : Nat} {t : TypeId} {cs : Array Value} (h : Mem w0 w rs) (i : Nat) (hi : rs[i]? = some (cellsR b t cs)) : w.heap[b]? = some (.cells cs t (0, 0)) := h.at_ i hi
theorem Mem.map {α β : Type} {P : Program} {k : TypeId} {ek : α → Value} {ev : β → Value} {b n : Nat} {m : α → Option β} (h : Mem w0 w rs) (i : Nat) (hi : rs[i]? = some (mapR P k ek ev b n m)) : MapIs P k ek ev w b n m := h.at_ i hi
theorem Mem.cell {b : Nat} {t : TypeId} {cs : Array Value} (h : Mem w0 w rs) (i : Nat) (hi : rs[i]? = some (cellsR b t cs)) (j : Nat) {u : Value} (hj : cs[j]? = some u) : w.cell? ⟨b, j, none⟩ = some u := by
  simp [World.cell?, h.heap i hi, hj]
theorem Mem.two {b : Nat} {t : TypeId} {x y : Value} (h : Mem w0 w rs) (i : Nat) (hi : rs[i]? = some (cellsR b t #[x, y])) : w.cell? ⟨b, 0, none⟩ = some x ∧ w.cell? ⟨b, 1, none⟩ = some y := by
  have := h.at_ i hi
  exact ⟨by simp [World.cell?, show w.heap[b]? = _ from this], by simp [World.cell?, show w.heap[b]? = _ from this]⟩
theorem Mem.free {b : Nat} {t : TypeId} {cs : Array Value} (h : Mem w0 w rs) (i : Nat) (hi : rs[i]? = some (cellsR b t cs)) (j : Nat) : w.frozen? ⟨b, j, none⟩ = false := by
  simp [World.frozen?, h.heap i hi]
theorem Mem.cellAt {e : TypeId} {size n g cap : Nat} {xs : List Value} (h : Mem w0 w rs) (i : Nat) (hi : rs[i]? = some (rowR e size (.slice (some ⟨g, 0, none⟩) n cap) n xs)) (j : Nat) {u : Value} (hj : xs[j]? = some u) : w.cell? ⟨g, j, none⟩ = some u := by
  have hr := h.row i hi
  have hl := (List.getElem?_eq_some_iff.1 hj).1
  rw [hr.cellAt j (by rw [← hr.1]; exact hl), hj]
theorem Mem.freeAt {e : TypeId} {size n g cap : Nat} {xs : List Value} (h : Mem w0 w rs) (i : Nat) (hi : rs[i]? = some (rowR e size (.slice (some ⟨g, 0, none⟩) n cap) n xs)) (j : Nat) : w.frozen? ⟨g, j, none⟩ = false := (h.row i hi).frozenAt j
theorem Mem.pos {e : TypeId} {size n : Nat} {v : Value} {xs : List Value} (h : Mem w0 w rs) (i : Nat) (hi : rs[i]? = some (rowR e size v (n + 1) xs)) : ∃ g cap, v = .slice (some ⟨g, 0, none⟩) (n + 1) cap ∧ w0.heap.size ≤ g ∧ g < w.heap.size := by
  obtain ⟨g, cap, rfl⟩ := ownsRow_succ (h.row i hi)
  exact ⟨g, cap, rfl, h.lo i hi g rfl, ((h.row i hi).lt g rfl).2⟩
theorem Mem.getRow {e : TypeId} {size n cap : Nat} {a : Option Addr} {xs : List Value} (h : Mem w0 w rs) (i : Nat) (hi : rs[i]? = some (rowR e size (.slice a n cap) n xs)) (j : Nat) {u : Value} (hj : xs[j]? = some u) :
    ∃ g, a = some ⟨g, 0, none⟩ ∧ w0.heap.size ≤ g ∧ g < w.heap.size ∧ w.cell? ⟨g, j, none⟩ = some u := by
  have hr := h.row i hi
  rcases hr.2 with ⟨e1, e2⟩ | ⟨g, cap', cur, e1, _, hg, _⟩
  · have := hr.1
    rw [e2] at this
    have : xs = [] := List.eq_nil_of_length_eq_zero (by simpa using this)
    subst this
    simp at hj
  · cases e1
    exact ⟨g, rfl, h.lo i hi g rfl, (Array.getElem?_eq_some_iff.1 hg).1, h.cellAt i hi j hj⟩
theorem Mem.val {e : TypeId} {size n : Nat} {v : Value} {xs : List Value} (h : Mem w0 w rs) (i : Nat) (hi : rs[i]? = some (rowR e size v n xs)) : ∃ a cap, v = .slice a n cap ∧ n ≤ cap := by
  rcases (h.row i hi).2 with ⟨rfl, rfl⟩ | ⟨g, cap, cur, rfl, _, _, hn, _⟩
  · exact ⟨_, _, rfl, Nat.le_refl _⟩
  · exact ⟨_, _, rfl, hn⟩
end
end Go.Tre
namespace Go.Tre
open Go.RowKit
theorem noteEnd_none : ∀ {l : List UInt8}, noteEnd l = none → Lib.index l [42, 41] = -1
  | [], _ => by decide
  | [c], _ => by
    unfold Lib.index
    simp [Lib.index]
  | c :: d :: l, h => by
    unfold noteEnd at h
    split at h
    · cases h
    · rename_i hn
      have ih := noteEnd_none h
      unfold Lib.index
      rw [if_neg, ih]
      · rfl
      · intro hp
        simp at hp
        exact hn ⟨hp.1.symm, hp.2.symm⟩
theorem noteEnd_some : ∀ {l r : List UInt8}, noteEnd l = some r → ∃ k : Nat, Lib.index l [42, 41] = (k : Int) ∧ l.drop (k + 2) = r ∧ k + 2 ≤ l.length
  | [], _, h => by cases h
  | [c], _, h => by cases h
  | c :: d :: l, r, h => by
    unfold noteEnd at h
    split at h
    · rename_i hc
      cases h
      refine ⟨0, ?_, rfl, by simp⟩
      unfold Lib.index
      rw [if_pos]
      · rfl
      · simp [hc.1, hc.2]
    · rename_i hn
      obtain ⟨k, h1, h2, h3⟩ := noteEnd_some h
      refine ⟨k + 1, ?_, ?_, ?_⟩
      · unfold Lib.index
        rw [if_neg, h1, if_neg]
        · omega
        · simp
        · intro hp
          simp at hp
          exact hn ⟨hp.1.symm, hp.2.symm⟩
      · simpa using h2
      · simp only [List.length_cons] at h3 ⊢; omega
theorem skipS_note {l r : List UInt8} (h : l.dropWhile blank = 40 :: 42 :: r) : skipS l = (noteEnd r).bind skipS := by
  rw [skipS]
  split
  · rename_i r0 h1
    rw [h] at h1
    cases h1
    split
    · rename_i h2; rw [h2]; rfl
    · rename_i h2; rw [h2]; rfl
  · rename_i hn
    exact absurd h (hn r)
theorem skipS_rest {l : List UInt8} (h : ∀ r, l.dropWhile blank ≠ 40 :: 42 :: r) : skipS l = some (l.dropWhile blank) := by
  rw [skipS]
  split
  · rename_i r0 h1
    exact absurd h1 (h r0)
  · rfl
theorem extract_list (s : ByteArray) (k : Nat) : (s.extract k s.size).data.toList = s.data.toList.drop k := by
  rw [ByteArray.data_extract, Array.toList_extract]
  have : s.size = s.data.toList.length := rfl
  rw [this, List.extract_eq_take_drop, List.take_of_length_le (by simp)]
theorem blank_set : ([9, 10, 13, 32] : List UInt8).contains = blank := by
  funext c
  rw [Bool.eq_iff_iff]
  simp [Tre.blank, or_assoc]
theorem data_inj' {a b : ByteArray} (h : a.data.toList = b.data.toList) : a = b := ByteArray.ext (Array.toList_inj.1 h)
theorem dropWhile_drop (p : UInt8 → Bool) : ∀ l : List UInt8, l.drop (l.length - (l.dropWhile p).length) = l.dropWhile p
  | [] => rfl
  | c :: l => by
    rw [List.dropWhile_cons]
    split
    · have := dropWhile_drop p l
      have hl := (List.dropWhile_sublist (l := l) p).length_le
      rw [List.length_cons, show l.length + 1 - (l.dropWhile p).length = (l.length - (l.dropWhile p).length) + 1 by omega, List.drop_succ_cons]
      exact this
    · simp
/-- an error that says a place and a number: by itself, or the first of two that are joined -/
def ErrIn (w : World) (bs : List Nat) (v : Value) (at_ no : Nat) : Prop :=
  (∃ p, bs = [p] ∧ v = .iface 41 (.pointer (some ⟨p, 0, none⟩)) ∧ w.heap[p]? = some (.cells #[.int .i64 at_, .int .i64 no] 45 (0, 0))) ∨
  (∃ p q r t x c, bs = [p, q, r] ∧ v = .iface 113 (.pointer (some ⟨q, 0, none⟩)) ∧ w.heap[p]? = some (.cells #[.int .i64 at_, .int .i64 no] 45 (0, 0)) ∧
    w.heap[q]? = some (.cells #[.slice (some ⟨r, 0, none⟩) 2 c] t (0, 0)) ∧ (∃ t' cs fz, w.heap[r]? = some (.cells cs t' fz) ∧ cs[0]? = some (.iface 41 (.pointer (some ⟨p, 0, none⟩))) ∧ cs[1]? = some x) ∧ 2 ≤ c)
def errR (bs : List Nat) (v : Value) (at_ no : Nat) : Res where
  own b := b ∈ bs
  P w := ErrIn w bs v at_ no
  stable w w' h hs := by
    rcases h with ⟨p, rfl, rfl, h1⟩ | ⟨p, q, r, t, x, c, rfl, rfl, h1, h2, ⟨t', cs, fz, h3, h4⟩, h5⟩
    · exact .inl ⟨p, rfl, rfl, (hs p (by simp)).trans h1⟩
    · exact .inr ⟨p, q, r, t, x, c, rfl, rfl, (hs p (by simp)).trans h1, (hs q (by simp)).trans h2, ⟨t', cs, fz, (hs r (by simp)).trans h3, h4⟩, h5⟩
  has w h b hb := by
    rcases h with ⟨p, rfl, rfl, h1⟩ | ⟨p, q, r, t, x, c, rfl, rfl, h1, h2, ⟨t', cs, fz, h3, h4⟩, h5⟩
    · simp at hb; subst hb; exact (Array.getElem?_eq_some_iff.1 h1).1
    · simp at hb
      rcases hb with rfl | rfl | rfl
      · exact (Array.getElem?_eq_some_iff.1 h1).1
      · exact (Array.getElem?_eq_some_iff.1 h2).1
      · exact (Array.getElem?_eq_some_iff.1 h3).1
/-- the lexer itself -/
abbrev lexR (b : Nat) (s : ByteArray) (k : Nat) : Res := cellsR b 52 #[.string s, .int .i64 (k : Int)]
theorem lexAt {w0 w : World} {rs : List Res} {b : Nat} {s : ByteArray} {k : Nat} (h : Mem w0 w rs) (i : Nat) (hi : rs[i]? = some (lexR b s k)) : LexAt b s k w := by
  obtain ⟨h0, h1⟩ := h.two i hi
  exact ⟨h0, h1⟩
end Go.Tre
namespace Go.Proofs.YtnhcgobpkigeoaaGreatDoorRR.lex
open Go.RowKit Go.Tre
theorem rest_is (b : Nat) (s : ByteArray) (k : Nat) (x : ByteArray) (w : World) (h : LexAt b s k w) (hk : k ≤ s.size) (hs : s.size ≤ 8388608) (hx : x.data.toList = s.data.toList.drop k) :
    Calls Tryz.prog 19 #[.pointer (some ⟨b, 0, none⟩)] w fun e w' => e = .returned (.string x) ∧ Below w.heap.size w w' := by
  rw [show x = s.extract k s.size from data_inj' (by rw [hx, extract_list])]
  exact rest b s k w h hk hs
theorem trimBlank (x d : ByteArray) (w : World) (hd : d.data.toList = x.data.toList.dropWhile Tre.blank) :
    Calls Tryz.prog 27 #[.string x, .string ⟨#[9, 10, 13, 32]⟩] w fun e w' => e = .returned (.string d) ∧ Below w.heap.size w w' := by
  refine (Any.strings_TrimLeft_laid Tryz.lays161 (by kernel_rfl) x ⟨#[9, 10, 13, 32]⟩ w (by decide) (ascii_of_all (by decide))).mono ?_
  rintro e w' ⟨rfl, hb⟩
  refine ⟨?_, hb⟩
  rw [show d = ⟨(Lib.trimLeftS x.data.toList [9, 10, 13, 32]).toArray⟩ from data_inj' (by rw [hd]; unfold Lib.trimLeftS; rw [← blank_set])]
theorem cutNote (d n : ByteArray) (is : Bool) (w : World) (h1 : Lib.hasPrefix d.data.toList [40, 42] = is) (h2 : n.data.toList = Lib.trimPrefix d.data.toList [40, 42]) :
    Calls Tryz.prog 28 #[.string d, .string ⟨#[40, 42]⟩] w fun e w' => e = .returned (.tuple #[.string n, .bool is]) ∧ w = w' := by
  refine (Tryz.strings_CutPrefix d ⟨#[40, 42]⟩ w).mono ?_
  rintro e w' ⟨rfl, rfl⟩
  refine ⟨?_, rfl⟩
  rw [show n = ⟨(Lib.trimPrefix d.data.toList [40, 42]).toArray⟩ from data_inj' (by rw [h2]), ← h1]
theorem indexEnd (n : ByteArray) (i : Int) (w : World) (hs : n.size < 4294967281) (hm : MaxAt w) (h : Lib.index n.data.toList [42, 41] = i) :
    Calls Tryz.prog 29 #[.string n, .string ⟨#[42, 41]⟩] w fun e w' => e = .returned (.int .i64 i) ∧ w = w' := by
  obtain ⟨m, hm⟩ := hm
  refine (Tryz.strings_Index n ⟨#[42, 41]⟩ m w hs hm).mono ?_
  rintro e w' ⟨rfl, rfl⟩
  exact ⟨by rw [← h], rfl⟩
end Go.Proofs.YtnhcgobpkigeoaaGreatDoorRR.lex
