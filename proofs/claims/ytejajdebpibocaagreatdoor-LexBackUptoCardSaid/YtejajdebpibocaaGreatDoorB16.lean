/- Arguments out of their readings: what all of them share; the wrap for a row with a bound, the world's shape kept. How an argument that is a list of tokens lies in memory, out of its reading. Plain: names are one token; the lexer's answer at a given text, by reckoning. trefoillaw01: alive, LexNames. Rows of tokens, as they are read. trefoilref01.Same at two rows of the same tokens. -/
import Derived.Test.YtejajdebpibocaaGreatDoorRows
import Derived.Test.YtejajdebpibocaaGreatDoorB00
import Derived.Test.YtejajdebpibocaaGreatDoorB05
import Derived.JoinedCond
import Derived.ChangeSlices
import Derived.SliceStrings
import Derived.Deep.Slices
import Derived.Shelf.Vars
import Derived.Test.YtejajdebpibocaaGreatDoorB13
set_option linter.unusedVariables false
namespace Go.Tre
open Go.RowKit Go.ChangeShapes Go.Deep
theorem addr_plain {w : World} {a : Addr} {j : Nat} {u : Value} (h : w.cell? (a.add j) = some u) : (∃ b off, a = ⟨b, off, none⟩) ∨ 0 < j := by
  by_cases hj : j = 0
  · subst hj
    left
    obtain ⟨b, off, s⟩ := a
    simp [Addr.add, World.cell?] at h
    split at h
    · by_cases hs : s = none
      · subst hs; exact ⟨_, _, rfl⟩
      · have : s.isSome = true := Option.isSome_iff_ne_none.2 hs
        simp [this] at h
    · cases h
  · exact .inr (by omega)
theorem add_plain (b off j : Nat) : (⟨b, off, none⟩ : Addr).add j = ⟨b, off + j, none⟩ := by
  unfold Addr.add
  by_cases h : j = 0 <;> simp [h]
/-- cells from an address on, as a row -/
theorem row_of {w : World} {a : Addr} {sz n : Nat} {cs : List Value} (hl : cs.length = n * sz) (h : ∀ j u, cs[j]? = some u → w.cell? (a.add j) = some u) : Row w sz (some a) n cs := by
  refine ⟨hl, fun j u hu => ?_⟩
  obtain ⟨u0, h0⟩ : ∃ u0, cs[0]? = some u0 := ⟨cs[0]'(by have := (List.getElem?_eq_some_iff.1 hu).1; omega), List.getElem?_eq_getElem _⟩
  rcases addr_plain (h 0 u0 h0) with ⟨b, off, rfl⟩ | h'
  · refine ⟨b, off, rfl, ?_⟩
    have := h j u hu
    rwa [add_plain] at this
  · omega
theorem getD_map {α : Type} (f : α → Value) (l : List α) (d : α) {n j : Nat} {u : Value} (h : ((l.take n).map f)[j]? = some u) : j < l.length ∧ u = f (l.getD j d) := by
  rw [List.getElem?_map] at h
  obtain ⟨x, hx, rfl⟩ := Option.map_eq_some_iff.1 h
  rw [List.getElem?_take] at hx
  split at hx
  · have hl := (List.getElem?_eq_some_iff.1 hx).1
    exact ⟨hl, by rw [List.getD_eq_getElem?_getD, hx]; rfl⟩
  · cases hx

section
variable {P : Program} {H : Type} {enc : TypeId × Value → H} {w : World} {base : Nat} {sp : Nat → Bool} {held : Bool}
theorem open_ints' {t e : TypeId} {fuel : Nat} {cs : List Value} {x : DataW H × List MemPlace} (ht : P.underlying t = some (.slice e)) (he : P.underlying e = some (.int .i64)) (hc : P.cellsOf e = 1) (h : DataW.trod enc P w base sp held fuel t cs = some x) :
    ∃ (a : Option Addr) (cap : Nat) (xs : List Int), cs = [.slice a xs.length cap] ∧ IntsAt w a xs ∧ xs.length ≤ cap ∧ (x.1 = .nil ∧ xs = [] ∨ ∃ r, x.1 = .slice (xs.map fun n => .lit (.int .i64 n)) r) := by
  rcases open_ints ht he hc h with ⟨h1, h2⟩ | ⟨a, len, cap, zs, h1, _, h3, _, h5, h6, h7, _⟩
  · exact ⟨none, 0, [], h1, ⟨rfl, fun j u hu => by simp at hu⟩, Nat.le_refl _, .inl ⟨by rw [h2], rfl⟩⟩
  · have hl : (zs.take len).length = len := by rw [List.length_take, h5]; split <;> omega
    refine ⟨some a, cap, zs.take len, by rw [hl]; exact h1, row_of (by simp) (fun j u hu => ?_), by rw [hl]; exact h3, .inr ⟨_, by rw [h6]; rfl⟩⟩
    obtain ⟨hj, rfl⟩ := getD_map _ zs 0 hu
    exact h7 j hj
theorem open_strs' {t e : TypeId} {fuel : Nat} {cs : List Value} {x : DataW H × List MemPlace} (ht : P.underlying t = some (.slice e)) (he : P.underlying e = some .string) (hc : P.cellsOf e = 1) (h : DataW.trod enc P w base sp held fuel t cs = some x) :
    ∃ (a : Option Addr) (cap : Nat) (xs : List ByteArray), cs = [.slice a xs.length cap] ∧ StrsAt w a xs ∧ xs.length ≤ cap ∧ (x.1 = .nil ∧ xs = [] ∨ ∃ r, x.1 = .slice (xs.map fun s => .lit (.string s.data.toList)) r) := by
  rcases open_strings ht he hc h with ⟨h1, h2⟩ | ⟨a, len, cap, zs, h1, _, h3, _, h5, h6, h7, _⟩
  · exact ⟨none, 0, [], h1, ⟨rfl, fun j u hu => by simp at hu⟩, Nat.le_refl _, .inl ⟨by rw [h2], rfl⟩⟩
  · have hl : (zs.take len).length = len := by rw [List.length_take, h5]; split <;> omega
    refine ⟨some a, cap, zs.take len, by rw [hl]; exact h1, row_of (by simp) (fun j u hu => ?_), by rw [hl]; exact h3, .inr ⟨_, by rw [h6]; rfl⟩⟩
    obtain ⟨hj, rfl⟩ := getD_map _ zs ByteArray.empty hu
    exact h7 j hj
end
end Go.Tre
namespace Go.Proofs.YtejajdebpibocaaGreatDoor.gr
open Go.RowKit Go.Maps Go.Tre lex Go.ChangeShapes Go.Deep
set_option maxRecDepth 100000
theorem bulk_ints {H : Type} : ∀ xs : List Int, Rows.uptoBulkAll (xs.map fun n => DataW.lit (H := H) (.int .i64 n)) = xs.length
  | [] => rfl
  | x :: r => by rw [List.map_cons]; simp only [Rows.uptoBulkAll, bulk_ints r, Rows.uptoBulk, List.length_cons]; omega
theorem bulk_strs {H : Type} : ∀ xs : List ByteArray, Rows.uptoBulkAll (xs.map fun s => DataW.lit (H := H) (.string s.data.toList)) = (xs.map fun s => s.size + 1).sum
  | [] => rfl
  | x :: r => by rw [List.map_cons]; simp only [Rows.uptoBulkAll, bulk_strs r, Rows.uptoBulk, List.map_cons, List.sum_cons]; rfl
theorem cellsInt : Tryz.prog.cellsOf 3 = 1 := by kernel_rfl
theorem cellsStr : Tryz.prog.cellsOf 9 = 1 := by kernel_rfl
theorem cellsBool : Tryz.prog.cellsOf 4 = 1 := by kernel_rfl
theorem cellsStrs : Tryz.prog.cellsOf 70 = 1 := by kernel_rfl
theorem bulk_map {H : Type} (D : Nat → DataW H) (W : Nat → Nat) : ∀ (l : List Nat), (∀ i ∈ l, W i ≤ Rows.uptoBulk (D i)) → (l.map W).sum ≤ Rows.uptoBulkAll (l.map D)
  | [], _ => by simp
  | i :: r, h => by
    have h1 := h i (by simp)
    have h2 := bulk_map D W r (fun j hj => h j (by simp [hj]))
    simp only [List.map_cons, List.sum_cons, Rows.uptoBulkAll]
    omega
theorem bulk_pos {H : Type} (d : DataW H) : 1 ≤ Rows.uptoBulk d := by unfold Rows.uptoBulk; split <;> omega
theorem maxAt_of {w : World} (h : w.ShapedOpen Tryz.prog) : MaxAt w :=
  Go.Proofs.cell_of_shapedOpen_int (zero := #[.int .i64 0]) (t := 3) h (of_decide_eq_true (by kernel_rfl)) (by kernel_rfl) rfl (by kernel_rfl) (by kernel_rfl) Tryz.underlying3

theorem wrap_cond_shaped {H : Type} {enc : TypeId × Value → H} {a : Assume} {C : Checked} {os : Os} {f : FuncId} {fn : Func} {s : OpenSpec} {k : (H : Type) → List (DataW H) → Bool} (hk : s.cond = some k) {F : Stop.Interp} {conds : List PathCond} {apart fresh handsOn again : Bool}
    (own : ownKnob C.prog.godebug = none) (started : os.Started) (noInit : C.prog.inits.idxOf? f = none) (hfn : C.prog.funcs[f]? = some fn)
    (witness : ∃ (w : World) (tape : Tape) (i : Input), w.os = os ∧ (w.forCall tape i).Shaped C.prog ∧ i.vars = [] ∧ Input.okWide C.prog (w.forCall tape i) .any w.heap.size f i ∧
      s.pre6 enc C.prog fn conds apart (w.forCall tape i).memory i.args ∧ a.holds C.prog (lone (Frame.enter C.prog f i.args .normal) [] (w.forCall tape i)))
    (contract : ∀ (W : World) (base : Nat) (args : Array Value) (ds gs : List (DataW H)) (before : List MemPlace),
      (∀ (j : Nat) t v, fn.params[j]? = some t → args[j]? = some v → Value.okWide C.prog W .any base t v) →
      DataW.Whole enc C.prog fn.params.toList s.vars apart W args.toList ds gs before → k H (ds ++ gs) = true → W.ShapedOpen C.prog →
      Calls C.prog f args W fun e W' => ∃ v, e = .returned v ∧ (s.at F).post enc C.prog fn apart fresh handsOn again W args v W') :
    ReturnsInHanded a C os f .any (s.pre6 enc C.prog fn conds apart) ((s.at F).post enc C.prog fn apart fresh handsOn again) := by
  refine returnsInHanded_of_calls own started noInit witness ?_
  intro w tape i _ hsh _ hok hpre hholds
  obtain ⟨_, _, _, fn', hfn', _, _, _, _, hval⟩ := hok
  have e : fn' = fn := Option.some.inj (hfn'.symm.trans hfn)
  subst e
  obtain ⟨ds, gs, before, hw, hc, hkk⟩ := (OpenSpec.pre_some hk conds apart _ _).1 hpre.1
  have hw' := DataW.Whole.of_heap (w' := w.forCall tape i) (by rfl) hw
  refine (contract (w.forCall tape i) w.heap.size i.args ds gs before hval hw' hkk hsh).mono fun e W' ⟨v, he, hp⟩ => ?_
  subst he
  exact ChangeSpec.post_blind hp
end Go.Proofs.YtejajdebpibocaaGreatDoor.gr
namespace Go.Tre
open Go.RowKit
/-- a token as an argument may hold it -/
structure ATok where
  k : Int
  at_ : Int
  n : Int
  s : List UInt8
structure ATokAt (w : World) (b o : Nat) (t : ATok) : Prop where
  k : w.cell? ⟨b, o, none⟩ = some (.int .i64 t.k)
  at_ : w.cell? ⟨b, o + 1, none⟩ = some (.int .i64 t.at_)
  n : w.cell? ⟨b, o + 2, none⟩ = some (.int .i64 t.n)
  s : w.cell? ⟨b, o + 3, none⟩ = some (.string ⟨t.s.toArray⟩)
  lo : -9223372036854775808 ≤ t.n
  hi : t.n ≤ 9223372036854775807
structure AToksAt (w : World) (a : Option Addr) (l : List ATok) : Prop where
  at_ : ∀ k t, l[k]? = some t → ∃ b o, a = some ⟨b, o, none⟩ ∧ ATokAt w b (o + k * 4) t
theorem ATokAt.below {w w' : World} {b o : Nat} {t : ATok} (h : ATokAt w b o t) (hb : Below w.heap.size w w') : ATokAt w' b o t :=
  ⟨cell_below hb h.k, cell_below hb h.at_, cell_below hb h.n, cell_below hb h.s, h.lo, h.hi⟩
theorem AToksAt.below {w w' : World} {a : Option Addr} {l : List ATok} (h : AToksAt w a l) (hb : Below w.heap.size w w') : AToksAt w' a l :=
  ⟨fun k t ht => by obtain ⟨b, o, e, h1⟩ := h.at_ k t ht; exact ⟨b, o, e, h1.below hb⟩⟩
theorem AToksAt.nil (w : World) (a : Option Addr) : AToksAt w a [] := ⟨fun k t h => by simp at h⟩
theorem le_sum_mem {α : Type} (f : α → Nat) : ∀ (l : List α) (x : α), x ∈ l → f x ≤ (l.map f).sum
  | [], x, h => by cases h
  | y :: l, x, h => by
    rw [List.map_cons, List.sum_cons]
    rcases List.mem_cons.1 h with rfl | h
    · omega
    · have := le_sum_mem f l x h; omega
end Go.Tre
namespace Go.Proofs.YtejajdebpibocaaGreatDoor.lex
open Go.RowKit Go.Maps Go.Tre Go.ChangeShapes Go.Deep gr
set_option maxRecDepth 100000
theorem cellsTok : Tryz.prog.cellsOf 29 = 4 := by kernel_rfl
section
variable {H : Type} {enc : TypeId × Value → H} {w : World} {base : Nat} {sp : Nat → Bool} {held : Bool}
theorem i64_bounds {k : Int} (h : Lit.wf (.int .i64 k) = true) : -9223372036854775808 ≤ k ∧ k ≤ 9223372036854775807 := by
  simp [Lit.wf, IntKind.min, IntKind.max, IntKind.signed, IntKind.bits] at h
  omega
theorem open_tok {fuel : Nat} {cs : List Value} {x : DataW H × List MemPlace} (h : DataW.trod enc Tryz.prog w base sp held fuel 29 cs = some x) :
    ∃ t : ATok, cs = [.int .i64 t.k, .int .i64 t.at_, .int .i64 t.n, .string ⟨t.s.toArray⟩] ∧ (-9223372036854775808 ≤ t.n ∧ t.n ≤ 9223372036854775807) ∧ t.s.length + 4 ≤ Rows.uptoBulk x.1 := by
  obtain ⟨xs, n, _, rfl, hl, hn, hf⟩ := DataW.trod_struct Tryz.underlying29 h
  rw [cellsTok] at hl
  match cs, hl, xs, hn with
  | [c0, c1, c2, c3], _, [y0, y1, y2, y3], _ =>
    have f0 := hf 0 _ rfl
    have f1 := hf 1 _ rfl
    have f2 := hf 2 _ rfl
    have f3 := hf 3 _ rfl
    simp only [List.getElem?_cons_zero, List.getElem?_cons_succ] at f0 f1 f2 f3
    obtain ⟨k, e0, z0, b0⟩ := DataW.trod_int Tryz.underlying3 f0
    obtain ⟨m, e1, z1, b1⟩ := DataW.trod_int Tryz.underlying3 f1
    obtain ⟨v, e2, z2, b2⟩ := DataW.trod_int Tryz.underlying2 f2
    obtain ⟨s, e3, z3, _⟩ := DataW.trod_string Tryz.underlying9 f3
    cases e0; cases e1; cases e2; cases e3
    refine ⟨⟨k, m, v, s.data.toList⟩, ?_, i64_bounds b2, ?_⟩
    · have : (⟨s.data.toList.toArray⟩ : ByteArray) = s := rfl
      simp only [this]
    · have q0 : 1 ≤ Rows.uptoBulk y0.1 := bulk_pos _
      have q1 : 1 ≤ Rows.uptoBulk y1.1 := bulk_pos _
      have q2 : 1 ≤ Rows.uptoBulk y2.1 := bulk_pos _
      have q3 : s.data.toList.length + 1 ≤ Rows.uptoBulk y3.1 := by rw [z3]; simp only [Rows.uptoBulk]; exact Nat.le_refl _
      simp only [List.map_cons, List.map_nil, Rows.uptoBulk, Rows.uptoBulkAll]
      omega
theorem open_toks' {fuel : Nat} {cs : List Value} {x : DataW H × List MemPlace} (h : DataW.trod enc Tryz.prog w base sp held fuel 23 cs = some x) :
    ∃ (a : Option Addr) (cap : Nat) (l : List ATok), cs = [.slice a l.length cap] ∧ AToksAt w a l ∧ l.length ≤ cap ∧ (l.map fun t => t.s.length + 1).sum + 1 ≤ Rows.uptoBulk x.1 := by
  rcases open_slice Tryz.underlying23 h with ⟨h1, h2⟩ | ⟨a, len, cap, m, fu, D, Pl, h1, _, h3, _, h5, rfl, h7⟩
  · exact ⟨none, 0, [], h1, AToksAt.nil _ _, Nat.le_refl _, by rw [h2]; simp [Rows.uptoBulk]⟩
  · rw [cellsTok] at h7
    have hm : len ≤ m := by rw [h5]; split <;> omega
    have step : ∀ i, i < len → ∃ n : ATok, n.s.length + 1 ≤ Rows.uptoBulk (D i) ∧ ∃ b off, a = ⟨b, off, none⟩ ∧ ATokAt w b (off + i * 4) n := by
      intro i hi
      obtain ⟨cs', hc, ht⟩ := h7 i (by omega)
      obtain ⟨n, e, ⟨hk, ha⟩, hw⟩ := open_tok ht
      obtain ⟨_, _, hcell⟩ := World.cells?_some hc
      subst e
      have k0 : w.cell? ((a.add (i * 4)).add 0) = some (.int .i64 n.k) := hcell 0 (by omega)
      have hp : ∃ b off, a = ⟨b, off, none⟩ := by
        by_cases hi0 : i = 0
        · subst hi0
          rcases addr_plain k0 with h' | h'
          · obtain ⟨b, off, e⟩ := h'
            exact ⟨b, off, by simpa [Addr.add] using e⟩
          · omega
        · obtain ⟨cs0, hc0, ht0⟩ := h7 0 (by omega)
          obtain ⟨n0, e0, _⟩ := open_tok ht0
          obtain ⟨_, _, hcell0⟩ := World.cells?_some hc0
          subst e0
          have k00 : w.cell? ((a.add (0 * 4)).add 0) = some (.int .i64 n0.k) := hcell0 0 (by omega)
          rcases addr_plain k00 with h' | h'
          · obtain ⟨b, off, e⟩ := h'
            exact ⟨b, off, by simpa [Addr.add] using e⟩
          · omega
      obtain ⟨b, off, rfl⟩ := hp
      have g : ∀ j, j < 4 → w.cell? ⟨b, off + i * 4 + j, none⟩ = ([.int .i64 n.k, .int .i64 n.at_, .int .i64 n.n, .string ⟨n.s.toArray⟩] : List Value)[j]? := fun j hj => by
        have := hcell j hj
        rwa [add_plain, add_plain] at this
      exact ⟨n, Nat.le_trans (by omega : n.s.length + 1 ≤ n.s.length + 4) hw, b, off, rfl, g 0 (by omega), g 1 (by omega), g 2 (by omega), g 3 (by omega), hk, ha⟩
    obtain ⟨f, hf⟩ : ∃ f : Nat → ATok, ∀ i, i < len → (f i).s.length + 1 ≤ Rows.uptoBulk (D i) ∧ ∃ b off, a = ⟨b, off, none⟩ ∧ ATokAt w b (off + i * 4) (f i) :=
      ⟨fun i => if h : i < len then Classical.choose (step i h) else ⟨0, 0, 0, []⟩, fun i hi => by simp only [hi, dif_pos]; exact Classical.choose_spec (step i hi)⟩
    have hl : ((List.range len).map f).length = len := by simp
    refine ⟨some a, cap, (List.range len).map f, by rw [hl]; exact h1, ⟨fun k n hn => ?_⟩, by rw [hl]; exact h3, ?_⟩
    · rw [List.getElem?_map] at hn
      obtain ⟨i, hi, rfl⟩ := Option.map_eq_some_iff.1 hn
      have hk : k < len := by have := (List.getElem?_eq_some_iff.1 hi).1; simpa using this
      rw [List.getElem?_range hk] at hi
      cases hi
      obtain ⟨_, b, off, e, hn⟩ := hf k hk
      exact ⟨b, off, by rw [e], hn⟩
    · have h1 := bulk_map D (fun i => (f i).s.length + 1) (List.range len) (fun i hi => (hf i (List.mem_range.1 hi)).1)
      rw [List.map_map]
      simp only [Rows.uptoBulk]
      have h2 : ((fun t : ATok => t.s.length + 1) ∘ f) = fun i => (f i).s.length + 1 := rfl
      rw [h2]
      omega
theorem open_toks {r : Reach} {b0 : Nat} {v : Value} {d : DataW H} {ps : List MemPlace} (hval : Value.okWide Tryz.prog w r b0 23 v) (hd : DataW.Trod enc Tryz.prog w base sp held 23 v d ps) :
    ∃ (a : Option Addr) (cap : Nat) (l : List ATok), v = .slice a l.length cap ∧ (AToksAt w a l ∧ l.length ≤ cap) ∧ (l.map fun t => t.s.length + 1).sum + 1 ≤ Rows.uptoBulk d := by
  obtain ⟨fuel, hf⟩ := hd
  obtain ⟨a, cap, l, e, h1, h2, h3⟩ := open_toks' hf
  refine ⟨a, cap, l, ?_, ⟨h1, h2⟩, h3⟩
  have hno : ∀ cs, v ≠ .agg cs := fun cs hcs => by
    subst hcs
    unfold Value.okWide at hval
    rw [Tryz.underlying23] at hval
    simp only [Cell.okWide, Tryz.underlying23] at hval
    simp [Cell.ok, Tryz.underlying23] at hval
  cases v with
  | agg cs => exact absurd rfl (hno cs)
  | _ => exact (List.cons.inj e).1
end
end Go.Proofs.YtejajdebpibocaaGreatDoor.lex
namespace Go.Tre
theorem goes_blank {c : UInt8} {b : Bool} (h : goesB c.toNat b = true) : blank c = false ∧ c ≠ 40 := by
  constructor
  · cases hb : blank c with
    | false => rfl
    | true =>
      exfalso
      simp [blank] at hb
      rcases hb with ((rfl | rfl) | rfl) | rfl <;> (revert h; cases b <;> decide)
  · rintro rfl
    revert h
    cases b <;> decide
theorem skipS_word {c : UInt8} {r : List UInt8} {b : Bool} (h : goesB c.toNat b = true) : skipS (c :: r) = some (c :: r) := by
  obtain ⟨h1, h2⟩ := goes_blank h
  have hd : (c :: r).dropWhile blank = c :: r := by rw [List.dropWhile_cons, if_neg (by rw [h1]; decide)]
  rw [skipS_rest', hd]
  intro t ht
  rw [hd] at ht
  injection ht with ht
  exact h2 ht
theorem skipS_nil : skipS [] = some [] := by rw [skipS_rest' (by intro r h; cases h)]; rfl
theorem name_one {s : ByteArray} (h : isName s = true) : lexS s.data.toList = some [⟨1, 0, 0, s.data.toList⟩, ⟨0, s.size, 0, []⟩] := by
  unfold isName at h
  simp only [Bool.and_eq_true, decide_eq_true_eq, Bool.not_eq_true', ne_eq] at h
  obtain ⟨⟨⟨h0, h1⟩, h2⟩, h3⟩ := h
  have hsz : s.data.toList.length = s.size := rfl
  have hw : wordFrom true s.data.toList = s.data.toList.length := h2
  have hN : s.data.toList.length ≤ 65536 := by omega
  unfold lexS
  rw [if_pos hN]
  have hkey : keyWords.contains s.data.toList = false := h3
  rw [← hsz] at h0 h1
  revert hw hkey h0 h1
  rw [← hsz]
  generalize s.data.toList = l
  intro h0 h1 hw hkey
  cases l with
  | nil => exact absurd rfl h0
  | cons c r =>
    have hg : goesB c.toNat true = true := by
      cases hg : goesB c.toNat true with
      | true => rfl
      | false =>
        unfold wordFrom at hw
        rw [if_neg (by rw [hg]; decide)] at hw
        simp at hw
    have hn : nextS (c :: r) = some (⟨1, 0, 0, c :: r⟩, (c :: r).length) := by
      unfold nextS
      rw [hw, if_pos (by simp), if_neg (by omega), List.take_length, hkey]
      rfl
    rw [allS_eq, skipS_word hg]
    simp only
    rw [hn]
    simp only
    rw [List.drop_length, allS_eq, skipS_nil]
    simp
theorem nextS_name {l : List UInt8} {t : Tok} {n : Nat} (h : nextS l = some (t, n)) (hk : t.kind = 1) : wordFrom true l = n ∧ 0 < n ∧ n ≤ 100 ∧ t.s = l.take n ∧ keyWords.contains (l.take n) = false := by
  unfold nextS at h
  split at h
  · rename_i h0
    split at h
    · cases h
    · rename_i h1
      cases h
      refine ⟨rfl, h0, by omega, rfl, ?_⟩
      cases hc : keyWords.contains (l.take (wordFrom true l)) with
      | false => rfl
      | true => rw [hc] at hk; simp at hk
  · exfalso
    split at h
    · cases h
    · split at h
      · split at h
        · cases h
        · cases h; simp at hk
      · split at h
        · simp only at h
          split at h
          · cases h; simp at hk
          · cases h
        · split at h
          · obtain ⟨p, _, e⟩ := Option.map_eq_some_iff.1 h
            cases e; simp at hk
          · obtain ⟨p, _, e⟩ := Option.map_eq_some_iff.1 h
            cases e; simp at hk
theorem name_only {s : ByteArray} {ts : List Tok} {a : Nat} (h : lexS s.data.toList = some ts) (h0 : ts[0]? = some ⟨1, a, 0, s.data.toList⟩) : isName s = true := by
  unfold lexS at h
  split at h
  · have hsz : s.data.toList.length = s.size := rfl
    rw [allS_eq] at h
    cases hs : skipS s.data.toList with
    | none => rw [hs] at h; cases h
    | some r =>
      rw [hs] at h
      obtain ⟨p, hp, _⟩ := skipS_parts hs
      cases r with
      | nil => cases h; simp at h0
      | cons c r =>
        simp only at h
        cases hn : nextS (c :: r) with
        | none => rw [hn] at h; cases h
        | some q =>
          obtain ⟨t, n⟩ := q
          rw [hn] at h
          obtain ⟨xs, _, rfl⟩ := Option.map_eq_some_iff.1 h
          simp only [List.getElem?_cons_zero, Option.some.injEq] at h0
          have hk : t.kind = 1 := by have := congrArg Tok.kind h0; exact this
          have hts : t.s = s.data.toList := by have := congrArg Tok.s h0; exact this
          obtain ⟨n1, n2, n3, n4, n5⟩ := nextS_name hn hk
          have hnl := nextS_len hn
          have hlen := congrArg List.length (n4.symm.trans hts)
          rw [List.length_take] at hlen
          have hpl := congrArg List.length hp
          rw [List.length_append] at hpl
          have hp0 : p = [] := List.eq_nil_of_length_eq_zero (by omega)
          rw [hp0, List.nil_append] at hp
          have hnn : n = (c :: r).length := by omega
          rw [hnn, List.take_length] at n4 n5
          unfold isName
          have hw : wordLen s = s.size := by
            show wordFrom true s.data.toList = _
            rw [hp, n1, hnn, ← hp]; rfl
          have hkey : isKey s = false := by
            unfold isKey; rw [hp]; exact n5
          rw [hw, hkey, ← hsz, hp]
          simp only [Bool.and_eq_true, decide_eq_true_eq, Bool.not_false, ne_eq, and_true]
          omega
  · cases h
theorem wordFrom_snoc : ∀ (l : List UInt8) (b : Bool), wordFrom b l = l.length → l ≠ [] → wordFrom b (l ++ [120]) = l.length + 1
  | [], _, _, h => absurd rfl h
  | c :: l, b, h, _ => by
    unfold wordFrom at h
    split at h
    · rename_i hg
      rw [List.cons_append, wordFrom, if_pos hg]
      cases l with
      | nil => rfl
      | cons d l =>
        rw [wordFrom_snoc (d :: l) false (by simp only [List.length_cons] at h ⊢; omega) (by simp), List.length_cons]
        simp only [List.length_cons]; omega
    · simp at h
theorem name_more {s sx : ByteArray} (h : isName s = true) (hx : sx.data.toList = s.data.toList ++ [120]) : s.size = 100 ∨ isKey sx = true ∨ isName sx = true := by
  unfold isName at h
  simp only [Bool.and_eq_true, decide_eq_true_eq, Bool.not_eq_true', ne_eq] at h
  obtain ⟨⟨⟨h0, h1⟩, h2⟩, h3⟩ := h
  have hsx : sx.size = s.size + 1 := by
    have := congrArg List.length hx
    rw [List.length_append] at this
    exact this
  by_cases h100 : s.size = 100
  · exact .inl h100
  · right
    cases hk : isKey sx with
    | true => exact .inl rfl
    | false =>
      right
      have hne : s.data.toList ≠ [] := by
        intro e
        have := congrArg List.length e
        exact h0 this
      have hw : wordLen sx = sx.size := by
        show wordFrom true sx.data.toList = _
        rw [hx, wordFrom_snoc _ _ h2 hne, hsx]; rfl
      unfold isName
      rw [hw, hk, hsx]
      simp only [Bool.and_eq_true, decide_eq_true_eq, Bool.not_false, ne_eq, and_true]
      omega
theorem alive1 : lexS [120, 35, 109] = some [⟨1, 0, 0, [120]⟩, ⟨6, 1, 0, [35]⟩, ⟨1, 2, 0, [109]⟩, ⟨0, 3, 0, []⟩] := lexS_of (by decide) (by decide)
theorem alive2 : lexS [34, 97, 92, 110, 98, 34] = some [⟨4, 0, 0, [97, 10, 98]⟩, ⟨0, 6, 0, []⟩] := lexS_of (by decide) (by decide)
end Go.Tre
namespace Go.Proofs.YtejajdebpibocaaGreatDoor.lex
open Go.RowKit Go.Tre
set_option maxRecDepth 100000 in
set_option maxHeartbeats 8000000 in
theorem alive (w : World) (E : LexEnv w) :
    Calls Tryz.prog 6 #[] w fun e w' => e = .returned (.bool true) ∧ Below w.heap.size w w' := by
  have HE := Tre.hid E
  have A1 : Hid (lexS (⟨#[120, 35, 109]⟩ : ByteArray).data.toList = some [⟨1, 0, 0, [120]⟩, ⟨6, 1, 0, [35]⟩, ⟨1, 2, 0, [109]⟩, ⟨0, 3, 0, []⟩]) := alive1
  have A2 : Hid (lexS (⟨#[34, 97, 92, 110, 98, 34]⟩ : ByteArray).data.toList = some [⟨4, 0, 0, [97, 10, 98]⟩, ⟨0, 6, 0, []⟩]) := alive2
  clear E
  go_enter Tryz.func6, Tryz.ntmps6
  go_wp2_with fail
  refine (Lex ⟨#[120, 35, 109]⟩ w (by decide) HE.out).mono ?_
  rw [A1.out]
  intro e w1 hp
  rcases hp with ⟨ts, v1, hd, rfl, M1⟩ | ⟨hd, _⟩
  · cases hd
    obtain ⟨g1, c1, rfl, _, _⟩ := M1.pos 0 rfl
    have HM1 := Tre.hid M1
    clear M1
    go_wp2_with fail
    refine (Lex ⟨#[34, 97, 92, 110, 98, 34]⟩ w1 (by decide) (HE.out.below HM1.out.below)).mono ?_
    rw [A2.out]
    intro e w2 hp
    rcases hp with ⟨ts, v2, hd, rfl, M2⟩ | ⟨hd, _⟩
    · cases hd
      obtain ⟨g2, c2, rfl, _, _⟩ := M2.pos 0 rfl
      have HM2 := Tre.hid (HM1.out.call M2)
      have a0 : w2.cell? ⟨g1, 3, none⟩ = some (.string ⟨#[120]⟩) := HM2.out.cellAt 1 rfl 3 rfl
      have a1 : w2.cell? ⟨g1, 7, none⟩ = some (.string ⟨#[35]⟩) := HM2.out.cellAt 1 rfl 7 rfl
      have a2 : w2.cell? ⟨g1, 9, none⟩ = some (.int .i64 2) := HM2.out.cellAt 1 rfl 9 rfl
      have a3 : w2.cell? ⟨g2, 3, none⟩ = some (.string ⟨#[97, 10, 98]⟩) := HM2.out.cellAt 0 rfl 3 rfl
      clear M2 HM1
      go_wp2_with fail
      go_ret
      exact ⟨rfl, HM2.out.below⟩
    · cases hd
  · cases hd
end Go.Proofs.YtejajdebpibocaaGreatDoor.lex
namespace Go.Tre
open Go.RowKit
abbrev ToksAt (w : World) (a : Option Addr) (ts : List Tok) : Prop := Row w 4 a ts.length (ts.flatMap tokCells)
theorem ToksAt.tok {w : World} {a : Option Addr} {ts : List Tok} (h : ToksAt w a ts) {i : Nat} {t : Tok} (hi : ts[i]? = some t) :
    ∃ b off, a = some ⟨b, off, none⟩ ∧ w.cell? ⟨b, off + i * 4, none⟩ = some (.int .i64 t.kind) ∧ w.cell? ⟨b, off + i * 4 + 1, none⟩ = some (.int .i64 t.at_) ∧ w.cell? ⟨b, off + i * 4 + 2, none⟩ = some (.int .i64 t.n) ∧ w.cell? ⟨b, off + i * 4 + 3, none⟩ = some (.string ⟨t.s.toArray⟩) := by
  have key : ∀ (ts : List Tok) (i : Nat) (j : Nat), j < 4 → ts[i]? = some t → (ts.flatMap tokCells)[i * 4 + j]? = (tokCells t)[j]? := by
    intro ts
    induction ts with
    | nil => intro i j _ h; simp at h
    | cons u r ih =>
      intro i j hj h
      cases i with
      | zero =>
        simp at h
        subst h
        rw [List.flatMap_cons, Nat.zero_mul, Nat.zero_add, List.getElem?_append_left (by simp [tokCells]; omega)]
      | succ i =>
        simp at h
        rw [List.flatMap_cons, List.getElem?_append_right (by simp [tokCells]; omega)]
        rw [show (i + 1) * 4 + j - (tokCells u).length = i * 4 + j by simp [tokCells]; omega]
        exact ih i j hj h
  obtain ⟨b, off, e, h0⟩ := h.at_ (i * 4 + 0) _ (key ts i 0 (by omega) hi)
  subst e
  obtain ⟨_, _, e, h1⟩ := h.at_ (i * 4 + 1) _ (key ts i 1 (by omega) hi); cases e
  obtain ⟨_, _, e, h2⟩ := h.at_ (i * 4 + 2) _ (key ts i 2 (by omega) hi); cases e
  obtain ⟨_, _, e, h3⟩ := h.at_ (i * 4 + 3) _ (key ts i 3 (by omega) hi); cases e
  exact ⟨b, off, rfl, h0, h1, h2, h3⟩
theorem ToksAt.below {w w' : World} {a : Option Addr} {ts : List Tok} (h : ToksAt w a ts) (hb : Below w.heap.size w w') : ToksAt w' a ts := Row.below h hb
theorem toks_of {w0 w : World} {rs : List Res} {a : Option Addr} {ts : List Tok} {n c : Nat} (h : Mem w0 w rs) (i : Nat) (hi : rs[i]? = some (rowR 29 4 (.slice a n c) n (ts.flatMap tokCells))) (hn : n = ts.length) : ToksAt w a ts := by
  subst hn
  refine ⟨tokCells_len ts, fun j u hu => ?_⟩
  obtain ⟨g, rfl, _, _, hc⟩ := h.getRow i hi j hu
  exact ⟨g, 0, rfl, by rw [Nat.zero_add]; exact hc⟩
theorem ToksAt.take {w : World} {a : Option Addr} {ts : List Tok} (h : ToksAt w a ts) (k : Nat) : ToksAt w a (ts.take k) := by
  refine ⟨tokCells_len _, fun j u hu => ?_⟩
  refine h.at_ j u ?_
  have e : ts = ts.take k ++ ts.drop k := (List.take_append_drop k ts).symm
  rw [e, List.flatMap_append, List.getElem?_append_left (List.getElem?_eq_some_iff.1 hu).1]
  exact hu
end Go.Tre
namespace Go.Proofs.YtejajdebpibocaaGreatDoor.lex
open Go.RowKit Go.Tre
theorem tokEq_refl (a b c : Int) (x : ByteArray) : tokEq a b c x a b c x = true := by simp [tokEq]
set_option maxRecDepth 100000 in
set_option maxHeartbeats 8000000 in
theorem same_eq (a b : Option Addr) (ca cb : Nat) (ts : List Tok) (w : World) (ha : ToksAt w a ts) (hb : ToksAt w b ts) (hl : ts.length ≤ 4194304) :
    Calls Tryz.prog 8 #[.slice a ts.length ca, .slice b ts.length cb] w fun e w' => e = .returned (.bool true) ∧ Below w.heap.size w w' := by
  have HA := Tre.hid ha
  have HB := Tre.hid hb
  have heq := eqTok
  clear ha hb
  go_enter Tryz.func8, Tryz.ntmps8
  go_wp2_with fail
  go_loopw [13] (fun v wr => ∃ i : Nat, i ≤ ts.length ∧ v = .int .i64 i ∧ Hid (Below w.heap.size w wr)) (fun v _ => ts.length - (intOf v).toNat)
  case atStart => exact ⟨0, Nat.zero_le _, rfl, Below.refl _ _⟩
  case round =>
    obtain ⟨i, hi, rfl, HW⟩ := hrel
    by_cases hlt : i < ts.length
    · obtain ⟨t, ht⟩ : ∃ t, ts[i]? = some t := ⟨_, List.getElem?_eq_getElem hlt⟩
      obtain ⟨b1, o1, rfl, a0, a1, a2, a3⟩ := (HA.out.below HW.out).tok ht
      obtain ⟨b2, o2, rfl, c0, c1, c2, c3⟩ := (HB.out.below HW.out).tok ht
      have hte := tokEq_refl t.kind t.at_ t.n ⟨t.s.toArray⟩
      go_wp2_with fail
      go_region_held3 (fun w' => w'.cell? ⟨b1, o1 + i * 4, none⟩ = some (.int .i64 t.kind) ∧ w'.cell? ⟨b1, o1 + i * 4 + 1, none⟩ = some (.int .i64 t.at_) ∧ w'.cell? ⟨b1, o1 + i * 4 + 2, none⟩ = some (.int .i64 t.n) ∧ w'.cell? ⟨b1, o1 + i * 4 + 3, none⟩ = some (.string ⟨t.s.toArray⟩) ∧ w'.cell? ⟨b2, o2 + i * 4, none⟩ = some (.int .i64 t.kind) ∧ w'.cell? ⟨b2, o2 + i * 4 + 1, none⟩ = some (.int .i64 t.at_) ∧ w'.cell? ⟨b2, o2 + i * 4 + 2, none⟩ = some (.int .i64 t.n) ∧ w'.cell? ⟨b2, o2 + i * 4 + 3, none⟩ = some (.string ⟨t.s.toArray⟩)) (go_keep) (fail)
      go_wp2_with fail
      go_roundw
      case rel => exact ⟨i + 1, by omega, by go_num, HW.out.drew⟩
      case measure => simp [intOf]; omega
    · go_wp2_with fail
      go_ret
      exact ⟨rfl, HW.out⟩
end Go.Proofs.YtejajdebpibocaaGreatDoor.lex
