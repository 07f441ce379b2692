/- Names and words: lex.goes, lex.word, and the reference's letter, digit, small, word. Layer 1, plain: a text's tokens. Steps through a drawn region, by hand: the slot that an operation writes is typed. Drawn regions: what is read is read first; behind an operation that waits for all reads, the condition on the world may fall. The lexer's walks: rest, fail. -/
import Derived.Test.YtnhcgobpkigeoaaGreatDoorRRRows
import Derived.Test.YtnhcgobpkigeoaaGreatDoorRRB00
import Derived.WalkSpells
import Derived.WalkLawsBesides
import Derived.Deep.RegionHeld3
import Derived.Deep.DeepCutAuto
import Derived.Deep.RegionWith
set_option linter.unusedVariables false
namespace Go.Tre
/-- may a byte go on a word, or begin one? -/
def goesB (c : Int) (b : Bool) : Bool := if (48 ≤ c ∧ c ≤ 57) ∨ (65 ≤ c ∧ c ≤ 90) then !b else decide ((97 ≤ c ∧ c ≤ 122) ∨ c = 95)
def wordFrom (b : Bool) : List UInt8 → Nat
  | [] => 0
  | c :: r => if goesB c.toNat b then 1 + wordFrom false r else 0
def wordLen (s : ByteArray) : Nat := wordFrom true s.data.toList
end Go.Tre
namespace Go.Proofs.YtnhcgobpkigeoaaGreatDoorRR.lex
open Go.RowKit Go.Tre

theorem ret_int {k : IntKind} {a b : Int} (h : a = b) : Ending.returned (.int k a) = .returned (.int k b) := by rw [h]
theorem nat_beq0 (k : Nat) : ((k : Int) == 0) = (k == 0) := by
  cases k
  · rfl
  · simp; omega
theorem drop_at (s : ByteArray) (k : Nat) (h : k < s.size) : s.data.toList.drop k = s[k] :: s.data.toList.drop (k + 1) := by
  rw [List.drop_eq_getElem_cons (by simpa using h)]; rfl
theorem ret_bool {x y : Bool} (h : x = y) : Ending.returned (.bool x) = .returned (.bool y) := by rw [h]

set_option maxHeartbeats 1000000 in
theorem goes (c : Int) (b : Bool) (w : World) (h0 : 0 ≤ c) (h1 : c ≤ 255) :
    Calls Tryz.prog 51 #[.int .u8 c, .bool b] w fun e w' => e = .returned (.bool (goesB c b)) ∧ w = w' := by
  have H : c < 48 ∨ (48 ≤ c ∧ c ≤ 57) ∨ (57 < c ∧ c < 65) ∨ (65 ≤ c ∧ c ≤ 90) ∨ (90 < c ∧ c < 95) ∨ c = 95 ∨ c = 96 ∨ (97 ≤ c ∧ c ≤ 122) ∨ 122 < c := by omega
  cases b
  all_goals
    rcases H with h | ⟨h, h'⟩ | ⟨h, h'⟩ | ⟨h, h'⟩ | ⟨h, h'⟩ | rfl | rfl | ⟨h, h'⟩ | h
    all_goals
      go_enter Tryz.func51, Tryz.ntmps51
      go_wp2_with fail
      go_ret
      refine ⟨ret_bool ?_, rfl⟩
      unfold goesB
      simp
      try omega

set_option maxHeartbeats 1000000 in
theorem word (s : ByteArray) (w : World) (hs : s.size ≤ 8388608) :
    Calls Tryz.prog 31 #[.string s] w fun e w' => e = .returned (.int .i64 (wordLen s)) ∧ w = w' := by
  go_enter Tryz.func31, Tryz.ntmps31
  go_wp2_with fail
  go_loop [3] (fun n => ∃ k : Nat, k ≤ s.size ∧ n = .int .i64 k ∧ wordLen s = k + wordFrom (k == 0) (s.data.toList.drop k)) (fun n => s.size - (intOf n).toNat)
  case atStart => exact ⟨0, Nat.zero_le _, rfl, by simp [wordLen]⟩
  case round =>
    obtain ⟨k, hk, rfl, hrel⟩ := hrel
    have HR := Tre.hid hrel
    clear hrel
    by_cases hlt : k < s.size
    · have hd : s.data.toList.drop k = s[k] :: s.data.toList.drop (k + 1) := drop_at s k hlt
      have h255 := s[k].toNat_lt
      by_cases hg : goesB s[k].toNat ((k : Int) == 0) = true
      · have HW : Hid (wordLen s = (k + 1 : Nat) + wordFrom ((k + 1 : Nat) == 0) (s.data.toList.drop (k + 1))) := by
          show _ = _
          rw [HR.out, hd, wordFrom, ← nat_beq0, if_pos hg, show (k + 1 == 0) = false from rfl]; omega
        clear hd
        go_wp2_with (go_at_call 51; refine (goes _ _ _ (by omega) (by omega)).mono ?_; rintro e w' ⟨rfl, rfl⟩)
        go_round
        case rel => exact ⟨k + 1, by omega, rfl, HW.out⟩
        case measure => simp [intOf]; omega
      · have hg' : goesB s[k].toNat ((k : Int) == 0) = false := by simpa using hg
        have HW : Hid (wordLen s = k) := by
          show _ = _
          rw [HR.out, hd, wordFrom, ← nat_beq0, if_neg (by simpa using hg)]; omega
        clear hd hg
        go_wp2_with (go_at_call 51; refine (goes _ _ _ (by omega) (by omega)).mono ?_; rintro e w' ⟨rfl, rfl⟩)
        go_ret
        exact ⟨ret_int (by rw [HW.out]), rfl⟩
    · have HW : Hid (wordLen s = k) := by
        show _ = _
        rw [HR.out, List.drop_of_length_le (by simp; omega)]; rfl
      go_wp2_with fail
      go_ret
      exact ⟨ret_int (by rw [HW.out]), rfl⟩
end Go.Proofs.YtnhcgobpkigeoaaGreatDoorRR.lex
namespace Go.Tre
/-- a token: its kind, its place, a number, a text -/
structure Tok where
  kind : Nat
  at_ : Nat
  n : Int
  s : List UInt8
deriving DecidableEq

def blank (c : UInt8) : Bool := c == 9 || c == 10 || c == 13 || c == 32
/-- what stands behind a note's end -/
def noteEnd : List UInt8 → Option (List UInt8)
  | [] => none
  | [_] => none
  | c :: d :: r => if c = 42 ∧ d = 41 then some r else noteEnd (d :: r)
theorem noteEnd_len : ∀ {l r : List UInt8}, noteEnd l = some r → r.length + 2 ≤ l.length
  | [], _, h => by cases h
  | [_], _, h => by cases h
  | c :: d :: l, r, h => by
    unfold noteEnd at h
    split at h
    · cases h; simp
    · have := noteEnd_len h; simp only [List.length_cons] at this ⊢; omega
/-- blanks and notes passed over -/
def skipS (l : List UInt8) : Option (List UInt8) :=
  match h : l.dropWhile blank with
  | 40 :: 42 :: r => match h2 : noteEnd r with
    | none => none
    | some r' => skipS r'
  | r => some r
termination_by l.length
decreasing_by
  have h3 := (List.dropWhile_sublist (l := l) blank).length_le
  rw [h] at h3
  have h4 := noteEnd_len h2
  simp only [List.length_cons] at h3
  omega
/-- a text behind a quote: what it tells, and how many bytes that has, with its end -/
def quotedS : List UInt8 → Option (List UInt8 × Nat)
  | [] => none
  | c :: r =>
    if c = 34 then some ([], 1)
    else if c = 92 then match r with
      | [] => none
      | d :: r' => if d = 92 ∨ d = 34 then (quotedS r').map fun p => (d :: p.1, p.2 + 2) else if d = 110 then (quotedS r').map fun p => (10 :: p.1, p.2 + 2) else none
    else (quotedS r).map fun p => (c :: p.1, p.2 + 1)
def symbolsS : List (List UInt8) := [[45, 62], [60, 45], [58, 62], [46, 46], [123, 60], [62, 125], [40], [41], [59], [58], [61], [60], [62], [43], [45], [42], [47], [44], [35]]
def isDig (c : UInt8) : Bool := decide (48 ≤ c.toNat) && decide (c.toNat ≤ 57)
def digitsVal (l : List UInt8) : Nat := l.foldl (fun a c => 10 * a + (c.toNat - 48)) 0
/-- the next token (its place left aside), and how many bytes it has -/
def nextS (l : List UInt8) : Option (Tok × Nat) :=
  if wordFrom true l > 0 then
    if wordFrom true l > 100 then none
    else some (⟨if keyWords.contains (l.take (wordFrom true l)) then 2 else 1, 0, 0, l.take (wordFrom true l)⟩, wordFrom true l)
  else match l with
    | [] => none
    | c :: r =>
      if c = 39 then
        if wordFrom true r = 0 ∨ wordFrom true r > 100 then none else some (⟨5, 0, 0, r.take (wordFrom true r)⟩, wordFrom true r + 1)
      else if isDig c then
        let d := (c :: r).takeWhile isDig
        if digitsVal d ≤ 9223372036854775807 then some (⟨3, 0, digitsVal d, []⟩, d.length) else none
      else if c = 34 then (quotedS r).map fun p => (⟨4, 0, 0, p.1⟩, p.2 + 1)
      else (symbolsS.find? fun x => x.isPrefixOf (c :: r)).map fun x => (⟨6, 0, 0, x⟩, x.length)
theorem skipS_len {l r : List UInt8} (h : skipS l = some r) : r.length ≤ l.length := by
  induction hn : l.length using Nat.strongRecOn generalizing l with
  | _ n ih =>
    have h3 := (List.dropWhile_sublist (l := l) blank).length_le
    rw [skipS] at h
    split at h
    · rename_i r0 h1
      rw [h1] at h3
      simp only [List.length_cons] at h3
      split at h
      · cases h
      · rename_i r' h2
        have h4 := noteEnd_len h2
        have := ih r'.length (by omega) h rfl
        omega
    · cases h
      omega
theorem wordFrom_len : ∀ (l : List UInt8) (b : Bool), wordFrom b l ≤ l.length
  | [], _ => by simp [wordFrom]
  | c :: r, b => by
    unfold wordFrom
    split
    · have := wordFrom_len r false; simp only [List.length_cons]; omega
    · simp
theorem quotedS_len : ∀ (k : Nat) (l : List UInt8), l.length ≤ k → ∀ p, quotedS l = some p → 1 ≤ p.2 ∧ p.2 ≤ l.length
  | 0, l, hk, p, h => by
    have : l = [] := List.eq_nil_of_length_eq_zero (by omega)
    subst this
    simp [quotedS] at h
  | k + 1, [], _, p, h => by simp [quotedS] at h
  | k + 1, c :: r, hk, p, h => by
    simp only [List.length_cons] at hk ⊢
    unfold quotedS at h
    split at h
    · cases h; exact ⟨Nat.le_refl _, by simp⟩
    · split at h
      · split at h
        · cases h
        · rename_i d r'
          simp only [List.length_cons] at hk ⊢
          split at h
          · obtain ⟨q, hq, rfl⟩ := Option.map_eq_some_iff.1 h
            have := quotedS_len k r' (by omega) q hq
            simp only; omega
          · split at h
            · obtain ⟨q, hq, rfl⟩ := Option.map_eq_some_iff.1 h
              have := quotedS_len k r' (by omega) q hq
              simp only; omega
            · cases h
      · obtain ⟨q, hq, rfl⟩ := Option.map_eq_some_iff.1 h
        have := quotedS_len k r (by omega) q hq
        simp only; omega
theorem takeWhile_len {α : Type} (p : α → Bool) : ∀ l : List α, (l.takeWhile p).length ≤ l.length := fun l => (List.takeWhile_sublist p).length_le
theorem nextS_len {l : List UInt8} {t : Tok} {n : Nat} (h : nextS l = some (t, n)) : 1 ≤ n ∧ n ≤ l.length := by
  unfold nextS at h
  split at h
  · split at h
    · cases h
    · cases h
      exact ⟨by omega, wordFrom_len l true⟩
  · split at h
    · cases h
    · rename_i c r _
      split at h
      · split at h
        · cases h
        · cases h
          have := wordFrom_len r true
          simp only [List.length_cons]; omega
      · split at h
        · rename_i hd
          simp only at h
          split at h
          · cases h
            refine ⟨?_, takeWhile_len _ _⟩
            rw [List.takeWhile_cons, if_pos hd]; simp
          · cases h
        · split at h
          · obtain ⟨q, hq, e⟩ := Option.map_eq_some_iff.1 h
            cases e
            have := quotedS_len r.length r (Nat.le_refl _) q hq
            simp only [List.length_cons]; omega
          · obtain ⟨x, hx, e⟩ := Option.map_eq_some_iff.1 h
            cases e
            have h1 := List.find?_some hx
            have h2 := List.mem_of_find?_eq_some hx
            have h3 : x <+: c :: r := by simpa using h1
            refine ⟨?_, h3.length_le⟩
            have : ∀ y ∈ symbolsS, 1 ≤ y.length := by decide
            exact this x h2
/-- a text's tokens, from what is left of it on; N: how long the whole is -/
def allS (N : Nat) (l : List UInt8) : Option (List Tok) :=
  match h : skipS l with
  | none => none
  | some [] => some [⟨0, N, 0, []⟩]
  | some (c :: r) => match h2 : nextS (c :: r) with
    | none => none
    | some (t, n) => (allS N ((c :: r).drop n)).map fun ts => { t with at_ := N - (c :: r).length } :: ts
termination_by l.length
decreasing_by
  have h3 := skipS_len h
  have h4 := nextS_len h2
  simp only [List.length_drop, List.length_cons] at *
  omega
def lexS (l : List UInt8) : Option (List Tok) := if l.length ≤ 65536 then allS l.length l else none
end Go.Tre
namespace Go.Tre
section
variable {P : Program} {ops : Array Oper} {Q : Exit → Act → World → Prop} {md : Region.Mode} {S : World → Prop}
theorem hTake {i : Nat} (d : Option Tmp) {v : Value} {fuel : Nat} {listed : Array Bool} {a : Act} {w : World} (hd : (ops[i]?).map (·.dst) = some d) (hs : Region.noSelect ops = true) (hf : Region.free md ops listed i = true)
    (hr : (Region.ready md ops listed).contains i = true) (hQ : ∀ c a w, Q (.panic c) (a.put d v) w → Q (.panic c) a w) (hw : (ops[i]?).map (fun o => Region.wanted o (yielded ops a.tmps)) = some true)
    (hy : ∀ w, S w → (ops[i]?).map (fun o => (execOp a.eval o).run P w) = some (.ok (.value v) w)) (hS : S w) (h : wpAnyH P md ops Q S fuel (listed.setIfInBounds i true) (a.put d v) w) :
    wpAnyH P md ops Q S (fuel + 1) listed a w := by
  obtain ⟨o, ho, rfl⟩ := Option.map_eq_some_iff.1 hd
  rw [ho, Option.map_some, Option.some.injEq] at hw
  refine wpAnyH_take ho hs hf hr hQ (Or.inl ⟨hw, fun w hSw => ?_⟩) hS h
  have := hy w hSw
  rw [ho, Option.map_some, Option.some.injEq] at this
  exact this
theorem hTakeNo {i : Nat} (d : Option Tmp) {fuel : Nat} {listed : Array Bool} {a : Act} {w : World} (hd : (ops[i]?).map (·.dst) = some d) (hs : Region.noSelect ops = true) (hf : Region.free md ops listed i = true)
    (hr : (Region.ready md ops listed).contains i = true) (hQ : ∀ c a w, Q (.panic c) (a.put d undef) w → Q (.panic c) a w) (hw : (ops[i]?).map (fun o => Region.wanted o (yielded ops a.tmps)) = some false)
    (hS : S w) (h : wpAnyH P md ops Q S fuel (listed.setIfInBounds i true) (a.put d undef) w) : wpAnyH P md ops Q S (fuel + 1) listed a w := by
  obtain ⟨o, ho, rfl⟩ := Option.map_eq_some_iff.1 hd
  rw [ho, Option.map_some, Option.some.injEq] at hw
  exact wpAnyH_take ho hs hf hr hQ (Or.inr ⟨hw, rfl⟩) hS h
theorem hOne (i : Nat) {fuel : Nat} {listed : Array Bool} {a : Act} {w : World} (hr : Region.ready md ops listed = [i])
    (h : ∀ K' : Act → World → Prop, Shut (∀ a w, S w → (S w → wpAnyH P md ops Q S fuel (listed.setIfInBounds i true) a w) → K' a w) →
      match ops[i]? with | some o => if Region.wanted o (yielded ops a.tmps) = true then Oper.wp P o a w K' Q else K' (a.put o.dst undef) w | none => K' a w) : wpAnyH P md ops Q S (fuel + 1) listed a w := by
  refine wpAnyH_ready hr (by simp) ?_
  cases ho : ops[i]? with
  | none =>
    rw [ho] at h
    intro j hj
    rw [List.mem_singleton.1 hj]
    have h' := h (fun a' w' => S w' ∧ wpAnyH P md ops Q S fuel (listed.setIfInBounds i true) a' w') (fun a w hS hW => ⟨hS, hW hS⟩)
    unfold wpOp
    rw [ho]
    exact h'
  | some o =>
    rw [ho] at h
    exact AllReadyH.cons ho h AllReadyH.nil
end
end Go.Tre
namespace Go.Tre
section
variable {P : Program} {ops : Array Oper} {Q : Exit → Act → World → Prop} {md : Region.Mode} {S : World → Prop} {F : List Nat}
/-- f waits for i -/
def waits (md : Region.Mode) (ops : Array Oper) : Nat → Nat → Nat → Bool
  | 0, _, _ => false
  | n + 1, f, i => match ops[f]? with
    | some o => o.after.any fun e => Region.binds md e && (e.on == i || waits md ops n e.on i)
    | none => false
/-- what has come up had all that it waits for -/
def Closed (md : Region.Mode) (ops : Array Oper) (listed : Array Bool) : Prop :=
  ∀ (j : Nat) (oj : Oper), ops[j]? = some oj → listed.getD j true = true → ∀ e ∈ oj.after, Region.binds md e = true → listed.getD e.on false = true
theorem getD_up {listed : Array Bool} {i : Nat} (h : listed.getD i false = true) : listed.getD i true = true := by
  rw [Array.getD_eq_getD_getElem?] at h ⊢
  cases hx : listed[i]? with
  | none => rfl
  | some x => rw [hx] at h; exact h
theorem Closed.waits {listed : Array Bool} (h : Closed md ops listed) : ∀ {n f i : Nat}, waits md ops n f i = true → listed.getD f true = true → listed.getD i true = true := by
  intro n
  induction n with
  | zero => intro f i hw; cases hw
  | succ n ih =>
    intro f i hw hf
    unfold Tre.waits at hw
    cases ho : ops[f]? with
    | none => rw [ho] at hw; cases hw
    | some o =>
      rw [ho] at hw
      obtain ⟨e, he, hb⟩ := Array.any_eq_true'.1 hw
      simp only [Bool.and_eq_true, Bool.or_eq_true, beq_iff_eq] at hb
      have h1 := h f o ho hf e he hb.1
      rcases hb.2 with rfl | h2
      · exact getD_up h1
      · exact ih h2 (getD_up h1)
theorem Closed.step {listed : Array Bool} (h : Closed md ops listed) {i : Nat} (hr : i ∈ Region.ready md ops listed) : Closed md ops (listed.setIfInBounds i true) := by
  intro j oj ho hj e he hb
  refine getD_set_true ?_
  by_cases hji : j = i
  · subst hji
    obtain ⟨_, o, ho', hall⟩ := mem_ready.1 hr
    rw [ho] at ho'
    cases ho'
    exact hall e he hb
  · rw [getD_set_ne true (Ne.symm hji)] at hj
    exact h j oj ho hj e he hb
def closedB (md : Region.Mode) (ops : Array Oper) (listed : Array Bool) : Bool :=
  (List.range ops.size).all fun j => !listed.getD j true || match ops[j]? with
    | some oj => oj.after.all fun e => !Region.binds md e || listed.getD e.on false
    | none => true
theorem closed_of {listed : Array Bool} (h : closedB md ops listed = true) : Closed md ops listed := by
  intro j oj ho hj e he hb
  unfold closedB at h
  rw [List.all_eq_true] at h
  have h1 := h j (List.mem_range.2 (Array.getElem?_eq_some_iff.1 ho).1)
  rw [hj, ho] at h1
  simp only [Bool.not_true, Bool.false_or] at h1
  have h2 := Array.all_eq_true'.1 h1 e he
  rw [hb] at h2
  simpa using h2

/-- the condition, while none of F has come up -/
def Keep (F : List Nat) (S : World → Prop) (listed : Array Bool) (w : World) : Prop := (∀ f ∈ F, listed.getD f true = false) → S w
def wpAnyL (P : Program) (md : Region.Mode) (ops : Array Oper) (Q : Exit → Act → World → Prop) (F : List Nat) (S : World → Prop) : Nat → Array Bool → Act → World → Prop
  | 0, listed, a, w => Region.ready md ops listed = [] ∧ Q .normal a w
  | fuel + 1, listed, a, w =>
    (Region.ready md ops listed = [] → Q .normal a w) ∧
    ∀ i ∈ Region.ready md ops listed, wpOp P ops Q i (fun a' w' => Keep F S (listed.setIfInBounds i true) w' ∧ wpAnyL P md ops Q F S fuel (listed.setIfInBounds i true) a' w') a w
theorem wpAny_of_keep : ∀ (fuel : Nat) (listed : Array Bool) (a : Act) (w : World), wpAnyL P md ops Q F S fuel listed a w → wpAny P md ops Q fuel listed a w
  | 0, _, _, _, h => h
  | fuel + 1, _, _, _, h => ⟨h.1, fun i hi => wpOp_mono (fun a' w' h' => wpAny_of_keep fuel _ a' w' h'.2) (h.2 i hi)⟩
theorem wpAnyL_first {i : Nat} {oi : Oper} {v : Value} (hi : ops[i]? = some oi) (hsel : ∀ (j : Nat) (o : Oper) cs b, ops[j]? = some o → o.op ≠ .select cs b)
    (hQ : ∀ c a w, Q (.panic c) (a.put oi.dst v) w → Q (.panic c) a w) (hF : ∀ f ∈ F, f ≠ i ∧ waits md ops ops.size f i = true) :
    ∀ (fuel : Nat) (listed : Array Bool) (a : Act) (w : World),
      (∀ j oj, ops[j]? = some oj → j ≠ i → listed.getD j true = false → (∀ e ∈ oj.after, Region.binds md e = true → e.on ≠ i) → oi.apart ops oj = true) →
      Closed md ops listed → i ∈ Region.ready md ops listed → YieldsIf P ops S oi v a → S w →
      wpAnyL P md ops Q F S fuel (listed.setIfInBounds i true) (a.put oi.dst v) w → wpAnyL P md ops Q F S (fuel + 1) listed a w := by
  intro fuel
  induction fuel with
  | zero =>
    intro listed a w _ _ hr hy hS H
    refine ⟨fun h => (by rw [h] at hr; cases hr), fun j hj => ?_⟩
    by_cases hji : j = i
    · subst hji; exact hy.wpOp hi hS ⟨fun _ => hS, H⟩
    · have := ready_mono hj hji
      rw [H.1] at this
      cases this
  | succ fuel ih =>
    intro listed a w hfree hc hr hy hS H
    refine ⟨fun h => (by rw [h] at hr; cases hr), fun j hj => ?_⟩
    by_cases hji : j = i
    · subst hji; exact hy.wpOp hi hS ⟨fun _ => hS, H⟩
    · have hun0 := (mem_ready.1 hr).1
      have h1 := H.2 j (ready_mono hj hji)
      obtain ⟨hjun, oj, hoj, hall⟩ := mem_ready.1 hj
      have hnot : ∀ e ∈ oj.after, Region.binds md e = true → e.on ≠ i := fun e he hb heq => by
        have h1 := hall e he hb
        rw [heq] at h1
        rw [getD_up h1] at hun0
        cases hun0
      have h2 := wpOp_putIf hoj (hfree j oj hoj hji hjun hnot) (fun cs b => hsel i oi cs b hi) (fun cs b => hsel j oj cs b hoj) hQ hy h1
      have hfree' : ∀ k ok, ops[k]? = some ok → k ≠ i → (listed.setIfInBounds j true).getD k true = false →
          (∀ e ∈ ok.after, Region.binds md e = true → e.on ≠ i) → oi.apart ops ok = true := fun k ok hk hki hun hno => by
        refine hfree k ok hk hki ?_ hno
        by_cases hjk : j = k
        · subst hjk; exact hjun
        · rw [getD_set_ne true hjk] at hun; exact hun
      have hc' := hc.step hj
      have hui : (listed.setIfInBounds j true).getD i true = false := by rw [getD_set_ne true hji]; exact hun0
      have hnoF : ∀ f ∈ F, (listed.setIfInBounds j true).getD f true = false := fun f hf => by
        cases hx : (listed.setIfInBounds j true).getD f true
        · rfl
        · have := hc'.waits (hF f hf).2 hx
          rw [hui] at this
          cases this
      refine wpOp_mono (fun a' w' h3 => ?_) h2
      have hSw : S w' := h3.2.1 (fun f hf => by
        rw [Array.setIfInBounds_comm _ _ (Ne.symm hji), getD_set_ne true (Ne.symm (hF f hf).1)]
        exact hnoF f hf)
      refine ⟨fun _ => hSw, ih (listed.setIfInBounds j true) a' w' hfree' hc' (ready_mono hr (Ne.symm hji)) h3.1 hSw ?_⟩
      rw [Array.setIfInBounds_comm _ _ hji]
      exact h3.2.2
theorem wpAnyL_pure {i : Nat} {oi : Oper} {v : Value} (hi : ops[i]? = some oi) (hsel : ∀ (j : Nat) (o : Oper) cs b, ops[j]? = some o → o.op ≠ .select cs b)
    (hQ : ∀ c a w, Q (.panic c) (a.put oi.dst v) w → Q (.panic c) a w) (hF : ∀ f ∈ F, f ≠ i) :
    ∀ (fuel : Nat) (listed : Array Bool) (a : Act) (w : World),
      (∀ j oj, ops[j]? = some oj → j ≠ i → listed.getD j true = false → (∀ e ∈ oj.after, Region.binds md e = true → e.on ≠ i) → oi.apart ops oj = true) →
      i ∈ Region.ready md ops listed → YieldsIf P ops (fun _ => True) oi v a → Keep F S listed w →
      wpAnyL P md ops Q F S fuel (listed.setIfInBounds i true) (a.put oi.dst v) w → wpAnyL P md ops Q F S (fuel + 1) listed a w := by
  have keep : ∀ (listed : Array Bool) (w : World), Keep F S (listed.setIfInBounds i true) w ↔ Keep F S listed w := fun listed w => by
    unfold Keep
    constructor
    · intro h h2
      exact h (fun f hf => by rw [getD_set_ne true (Ne.symm (hF f hf))]; exact h2 f hf)
    · intro h h2
      exact h (fun f hf => by have := h2 f hf; rw [getD_set_ne true (Ne.symm (hF f hf))] at this; exact this)
  intro fuel
  induction fuel with
  | zero =>
    intro listed a w _ hr hy hk H
    refine ⟨fun h => (by rw [h] at hr; cases hr), fun j hj => ?_⟩
    by_cases hji : j = i
    · subst hji; exact hy.wpOp hi trivial ⟨(keep _ _).2 hk, H⟩
    · have := ready_mono hj hji
      rw [H.1] at this
      cases this
  | succ fuel ih =>
    intro listed a w hfree hr hy hk H
    refine ⟨fun h => (by rw [h] at hr; cases hr), fun j hj => ?_⟩
    by_cases hji : j = i
    · subst hji; exact hy.wpOp hi trivial ⟨(keep _ _).2 hk, H⟩
    · have hun0 := (mem_ready.1 hr).1
      have h1 := H.2 j (ready_mono hj hji)
      obtain ⟨hjun, oj, hoj, hall⟩ := mem_ready.1 hj
      have hnot : ∀ e ∈ oj.after, Region.binds md e = true → e.on ≠ i := fun e he hb heq => by
        have h1 := hall e he hb
        rw [heq] at h1
        rw [getD_up h1] at hun0
        cases hun0
      have h2 := wpOp_putIf hoj (hfree j oj hoj hji hjun hnot) (fun cs b => hsel i oi cs b hi) (fun cs b => hsel j oj cs b hoj) hQ hy h1
      have hfree' : ∀ k ok, ops[k]? = some ok → k ≠ i → (listed.setIfInBounds j true).getD k true = false →
          (∀ e ∈ ok.after, Region.binds md e = true → e.on ≠ i) → oi.apart ops ok = true := fun k ok hk hki hun hno => by
        refine hfree k ok hk hki ?_ hno
        by_cases hjk : j = k
        · subst hjk; exact hjun
        · rw [getD_set_ne true hjk] at hun; exact hun
      refine wpOp_mono (fun a' w' h3 => ?_) h2
      have hk' : Keep F S (listed.setIfInBounds j true) w' := by
        have := h3.2.1
        rw [Array.setIfInBounds_comm _ _ (Ne.symm hji)] at this
        exact (keep _ _).1 this
      refine ⟨hk', ih (listed.setIfInBounds j true) a' w' hfree' (ready_mono hr (Ne.symm hji)) h3.1 hk' ?_⟩
      rw [Array.setIfInBounds_comm _ _ hji]
      exact h3.2.2
theorem lPure {i : Nat} (d : Option Tmp) {v : Value} {fuel : Nat} {listed : Array Bool} {a : Act} {w : World} (hd : (ops[i]?).map (·.dst) = some d) (hs : Region.noSelect ops = true) (hf : Region.free md ops listed i = true)
    (hr : (Region.ready md ops listed).contains i = true) (hF : F.contains i = false) (hQ : ∀ c a w, Q (.panic c) (a.put d v) w → Q (.panic c) a w) (hw : (ops[i]?).map (fun o => Region.wanted o (yielded ops a.tmps)) = some true)
    (hy : ∀ w, (ops[i]?).map (fun o => (execOp a.eval o).run P w) = some (.ok (.value v) w)) (hk : Keep F S listed w) (h : wpAnyL P md ops Q F S fuel (listed.setIfInBounds i true) (a.put d v) w) :
    wpAnyL P md ops Q F S (fuel + 1) listed a w := by
  obtain ⟨o, ho, rfl⟩ := Option.map_eq_some_iff.1 hd
  rw [ho, Option.map_some, Option.some.injEq] at hw
  have hF' : ∀ f ∈ F, f ≠ i := fun f hfm e => by
    subst e
    rw [List.contains_iff_mem.2 hfm] at hF
    cases hF
  refine wpAnyL_pure ho (Region.noSelect_spec hs) hQ hF' fuel listed a w (Region.free_spec ho hf) (by simpa using hr) (Or.inl ⟨hw, fun w _ => ?_⟩) hk h
  have := hy w
  rw [ho, Option.map_some, Option.some.injEq] at this
  exact this
theorem lPureNo {i : Nat} (d : Option Tmp) {fuel : Nat} {listed : Array Bool} {a : Act} {w : World} (hd : (ops[i]?).map (·.dst) = some d) (hs : Region.noSelect ops = true) (hf : Region.free md ops listed i = true)
    (hr : (Region.ready md ops listed).contains i = true) (hF : F.contains i = false) (hQ : ∀ c a w, Q (.panic c) (a.put d undef) w → Q (.panic c) a w) (hw : (ops[i]?).map (fun o => Region.wanted o (yielded ops a.tmps)) = some false)
    (hk : Keep F S listed w) (h : wpAnyL P md ops Q F S fuel (listed.setIfInBounds i true) (a.put d undef) w) : wpAnyL P md ops Q F S (fuel + 1) listed a w := by
  obtain ⟨o, ho, rfl⟩ := Option.map_eq_some_iff.1 hd
  rw [ho, Option.map_some, Option.some.injEq] at hw
  have hF' : ∀ f ∈ F, f ≠ i := fun f hfm e => by
    subst e
    rw [List.contains_iff_mem.2 hfm] at hF
    cases hF
  exact wpAnyL_pure ho (Region.noSelect_spec hs) hQ hF' fuel listed a w (Region.free_spec ho hf) (by simpa using hr) (Or.inr ⟨hw, rfl⟩) hk h
theorem keep_of {listed : Array Bool} {w : World} (h : S w) : Keep F S listed w := fun _ => h
theorem keep_fell {listed : Array Bool} {w : World} (h : F.any (fun f => listed.getD f true) = true) : Keep F S listed w := fun hn => by
  obtain ⟨f, hf, hx⟩ := List.any_eq_true.1 h
  rw [hn f hf] at hx
  cases hx
theorem wp_region_keep {id : Nat} {a : Act} {w : World} (F : List Nat) (hm : P.follows .mixedOrders = true) (hS : S w.drew)
    (h : S w.drew → wpAnyL P .any ops Q F S ops.size (Array.replicate ops.size false) a w.drew) : (Code.region id ops true).wp P Q a w :=
  wp_region_any hm (wpAny_of_keep _ _ _ _ (h hS))
theorem lTake {i : Nat} (d : Option Tmp) {v : Value} {fuel : Nat} {listed : Array Bool} {a : Act} {w : World} (hd : (ops[i]?).map (·.dst) = some d) (hs : Region.noSelect ops = true) (hf : Region.free md ops listed i = true)
    (hr : (Region.ready md ops listed).contains i = true) (hc : closedB md ops listed = true) (hF : (F.all fun f => f != i && waits md ops ops.size f i) = true) (hQ : ∀ c a w, Q (.panic c) (a.put d v) w → Q (.panic c) a w) (hw : (ops[i]?).map (fun o => Region.wanted o (yielded ops a.tmps)) = some true)
    (hy : ∀ w, S w → (ops[i]?).map (fun o => (execOp a.eval o).run P w) = some (.ok (.value v) w)) (hS : S w) (h : wpAnyL P md ops Q F S fuel (listed.setIfInBounds i true) (a.put d v) w) :
    wpAnyL P md ops Q F S (fuel + 1) listed a w := by
  obtain ⟨o, ho, rfl⟩ := Option.map_eq_some_iff.1 hd
  rw [ho, Option.map_some, Option.some.injEq] at hw
  have hF' : ∀ f ∈ F, f ≠ i ∧ waits md ops ops.size f i = true := fun f hf => by simpa using List.all_eq_true.1 hF f hf
  refine wpAnyL_first ho (Region.noSelect_spec hs) hQ hF' fuel listed a w (Region.free_spec ho hf) (closed_of hc) (by simpa using hr) (Or.inl ⟨hw, fun w hSw => ?_⟩) hS h
  have := hy w hSw
  rw [ho, Option.map_some, Option.some.injEq] at this
  exact this
theorem lTakeNo {i : Nat} (d : Option Tmp) {fuel : Nat} {listed : Array Bool} {a : Act} {w : World} (hd : (ops[i]?).map (·.dst) = some d) (hs : Region.noSelect ops = true) (hf : Region.free md ops listed i = true)
    (hr : (Region.ready md ops listed).contains i = true) (hc : closedB md ops listed = true) (hF : (F.all fun f => f != i && waits md ops ops.size f i) = true) (hQ : ∀ c a w, Q (.panic c) (a.put d undef) w → Q (.panic c) a w) (hw : (ops[i]?).map (fun o => Region.wanted o (yielded ops a.tmps)) = some false)
    (hS : S w) (h : wpAnyL P md ops Q F S fuel (listed.setIfInBounds i true) (a.put d undef) w) : wpAnyL P md ops Q F S (fuel + 1) listed a w := by
  obtain ⟨o, ho, rfl⟩ := Option.map_eq_some_iff.1 hd
  rw [ho, Option.map_some, Option.some.injEq] at hw
  have hF' : ∀ f ∈ F, f ≠ i ∧ waits md ops ops.size f i = true := fun f hf => by simpa using List.all_eq_true.1 hF f hf
  exact wpAnyL_first ho (Region.noSelect_spec hs) hQ hF' fuel listed a w (Region.free_spec ho hf) (closed_of hc) (by simpa using hr) (Or.inr ⟨hw, rfl⟩) hS h
/-- the next operation, K' the rest: S is to be shown anew -/
def LStep (P : Program) (md : Region.Mode) (ops : Array Oper) (Q : Exit → Act → World → Prop) (F : List Nat) (S : World → Prop) (fuel : Nat) (listed : Array Bool) (a : Act) (w : World) (i : Nat) : Prop :=
  ∀ K' : Act → World → Prop, Shut (∀ a w, S w → (S w → wpAnyL P md ops Q F S fuel (listed.setIfInBounds i true) a w) → K' a w) →
      match ops[i]? with | some o => if Region.wanted o (yielded ops a.tmps) = true then Oper.wp P o a w K' Q else K' (a.put o.dst undef) w | none => K' a w
/-- the same, where the condition falls -/
def LFall (P : Program) (md : Region.Mode) (ops : Array Oper) (Q : Exit → Act → World → Prop) (F : List Nat) (S : World → Prop) (fuel : Nat) (listed : Array Bool) (a : Act) (w : World) (i : Nat) : Prop :=
  ∀ K' : Act → World → Prop, Shut (∀ a w, wpAnyL P md ops Q F S fuel (listed.setIfInBounds i true) a w → K' a w) →
      match ops[i]? with | some o => if Region.wanted o (yielded ops a.tmps) = true then Oper.wp P o a w K' Q else K' (a.put o.dst undef) w | none => K' a w
variable {fuel : Nat} {listed : Array Bool} {a : Act} {w : World}
theorem LStep.op {i : Nat} (h : LStep P md ops Q F S fuel listed a w i) : wpOp P ops Q i (fun a' w' => Keep F S (listed.setIfInBounds i true) w' ∧ wpAnyL P md ops Q F S fuel (listed.setIfInBounds i true) a' w') a w := by
  unfold LStep at h
  cases ho : ops[i]? with
  | none =>
    rw [ho] at h
    have h' := h (fun a' w' => Keep F S (listed.setIfInBounds i true) w' ∧ wpAnyL P md ops Q F S fuel (listed.setIfInBounds i true) a' w') (fun a w hS hW => ⟨fun _ => hS, hW hS⟩)
    unfold wpOp
    rw [ho]
    exact h'
  | some o =>
    rw [ho] at h
    exact wpOp_step ho (fun K' hK => h K' (fun a w hS hW => hK a w ⟨fun _ => hS, hW hS⟩))
theorem LFall.op {i : Nat} (hi : F.any (fun f => (listed.setIfInBounds i true).getD f true) = true) (h : LFall P md ops Q F S fuel listed a w i) : wpOp P ops Q i (fun a' w' => Keep F S (listed.setIfInBounds i true) w' ∧ wpAnyL P md ops Q F S fuel (listed.setIfInBounds i true) a' w') a w := by
  have hk : ∀ w, Keep F S (listed.setIfInBounds i true) w := fun w hn => by
    obtain ⟨f, hf, hx⟩ := List.any_eq_true.1 hi
    rw [hn f hf] at hx
    cases hx
  unfold LFall at h
  cases ho : ops[i]? with
  | none =>
    rw [ho] at h
    have h' := h (fun a' w' => Keep F S (listed.setIfInBounds i true) w' ∧ wpAnyL P md ops Q F S fuel (listed.setIfInBounds i true) a' w') (fun a w hW => ⟨hk w, hW⟩)
    unfold wpOp
    rw [ho]
    exact h'
  | some o =>
    rw [ho] at h
    exact wpOp_step ho (fun K' hK => h K' (fun a w hW => hK a w ⟨hk w, hW⟩))
abbrev LOp (P : Program) (md : Region.Mode) (ops : Array Oper) (Q : Exit → Act → World → Prop) (F : List Nat) (S : World → Prop) (fuel : Nat) (listed : Array Bool) (a : Act) (w : World) (i : Nat) : Prop :=
  wpOp P ops Q i (fun a' w' => Keep F S (listed.setIfInBounds i true) w' ∧ wpAnyL P md ops Q F S fuel (listed.setIfInBounds i true) a' w') a w
theorem lNext {rs : List Nat} (hr : Region.ready md ops listed = rs) (hne : rs ≠ []) (h : ∀ i ∈ rs, LOp P md ops Q F S fuel listed a w i) : wpAnyL P md ops Q F S (fuel + 1) listed a w :=
  ⟨fun h0 => absurd (hr ▸ h0) hne, hr ▸ h⟩
theorem lOne (i : Nat) (hr : Region.ready md ops listed = [i]) (h1 : LOp P md ops Q F S fuel listed a w i) : wpAnyL P md ops Q F S (fuel + 1) listed a w :=
  lNext hr (by simp) (fun k hk => by simp at hk; subst hk; exact h1)
theorem lTwo (i j : Nat) (hr : Region.ready md ops listed = [i, j]) (h1 : LOp P md ops Q F S fuel listed a w i) (h2 : LOp P md ops Q F S fuel listed a w j) : wpAnyL P md ops Q F S (fuel + 1) listed a w :=
  lNext hr (by simp) (fun k hk => by
    simp at hk
    rcases hk with rfl | rfl
    · exact h1
    · exact h2)
theorem lThree (i j k : Nat) (hr : Region.ready md ops listed = [i, j, k]) (h1 : LOp P md ops Q F S fuel listed a w i) (h2 : LOp P md ops Q F S fuel listed a w j) (h3 : LOp P md ops Q F S fuel listed a w k) : wpAnyL P md ops Q F S (fuel + 1) listed a w :=
  lNext hr (by simp) (fun m hm => by
    simp at hm
    rcases hm with rfl | rfl | rfl
    · exact h1
    · exact h2
    · exact h3)
theorem lDone (hr : Region.ready md ops listed = []) (h : Q .normal a w) : wpAnyL P md ops Q F S fuel listed a w := by
  cases fuel with
  | zero => exact ⟨hr, h⟩
  | succ n => exact ⟨fun _ => h, by rw [hr]; simp⟩
end
end Go.Tre
namespace Go.Tre
open Go.RowKit
/-- a lexer in the memory: its text, how far it has come -/
structure LexAt (b : Nat) (s : ByteArray) (k : Nat) (w : World) : Prop where
  text : w.cell? ⟨b, 0, none⟩ = some (.string s)
  place : w.cell? ⟨b, 1, none⟩ = some (.int .i64 (k : Int))
theorem LexAt.below {b : Nat} {s : ByteArray} {k : Nat} {w w' : World} (h : LexAt b s k w) (hb : Below w.heap.size w w') : LexAt b s k w' :=
  ⟨cell_below hb h.text, cell_below hb h.place⟩
end Go.Tre
namespace Go.Proofs.YtnhcgobpkigeoaaGreatDoorRR.lex
open Go.RowKit Go.Tre
set_option maxHeartbeats 1000000 in
theorem rest (b : Nat) (s : ByteArray) (k : Nat) (w : World) (h : LexAt b s k w) (hk : k ≤ s.size) (hs : s.size ≤ 8388608) :
    Calls Tryz.prog 19 #[.pointer (some ⟨b, 0, none⟩)] w fun e w' => e = .returned (.string (s.extract k s.size)) ∧ Below w.heap.size w w' := by
  have hk' : (k : Int) ≤ (s.size : Int) := by omega
  have x0 := h.text
  have x1 := h.place
  clear h
  go_enter Tryz.func19, Tryz.ntmps19
  go_wp2_with fail
  go_region_held3 (fun w' => Below w.heap.size w w' ∧ w'.cell? ⟨b, 0, none⟩ = some (.string s) ∧ w'.cell? ⟨b, 1, none⟩ = some (.int .i64 (k : Int)))
    (first | exact ⟨(Below.refl _ _).drew, x0, x1⟩ | go_keep) (fail)
  have hb := (show Below w.heap.size w w.drew ∧ _ from by assumption).1
  have HB := Tre.hid hb
  clear hb
  go_wp2_with fail
  go_ret
  exact ⟨rfl, HB.out⟩
set_option maxHeartbeats 1000000 in
/-- fail: a refusal at the lexer's place -/
theorem fail (b : Nat) (s : ByteArray) (k : Nat) (w : World) (h : LexAt b s k w) :
    Calls Tryz.prog 30 #[.pointer (some ⟨b, 0, none⟩)] w fun e w' => e = .returned (.iface 41 (.pointer (some ⟨w.heap.size, 0, none⟩))) ∧ w' = w.alloc (.cells #[.int .i64 (k : Int), .int .i64 5] 45) := by
  have x0 := h.text
  have x1 := h.place
  clear h
  go_enter Tryz.func30, Tryz.ntmps30
  go_wp2_with fail
  go_ret
  exact ⟨rfl, rfl⟩
end Go.Proofs.YtnhcgobpkigeoaaGreatDoorRR.lex
