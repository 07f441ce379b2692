/- append onto a row of the call's own, the source whatever it is (nil, empty or not). strings: (*Replacer).build at the six texts that lex.Put names. sync.Once's parts: the calls that doSlow defers, the lock. strings: (*Replacer).buildOnce, (*sync.Once).doSlow and Do at it, (*Replacer).Replace at a new Replacer. strings: NewReplacer at lex.Put's six texts. value.Text: a text between quotes, its three bytes replaced. -/
import Derived.Test.YtcpcheengfgpaaaGreatDoorB00
import Derived.Maps.AppendAt
import Derived.Test.YtcpcheengfgpaaaGreatDoorB02
import Derived.Deep.WholeRow
import Derived.Test.YtcpcheengfgpaaaGreatDoorChecked
import Derived.Tactics
import Derived.Tactics2
import Derived.Defers
import Derived.Laws.Pointers
import Derived.Laws.LoneSync
import Derived.RegionTactic
import Derived.RegionCalls
import Derived.ChangeAlike
import Derived.Test.YtcpcheengfgpaaaGreatDoorB01
set_option linter.unusedVariables false
namespace Go.Tre
open Go.RowKit Go.Maps
section
variable {P : Program} (w : World)
theorem run_append_row (t ty e : TypeId) (i : TypeInfo) (z : Value) (size bytes : Nat) (ht : P.underlying t = some (.slice e)) (hi : P.info? e = some i) (hz : i.zero = some z)
    (hsize : i.size = size) (hby : i.bytes = bytes) (hzs : z.cells.size = size) (hsz : 0 < size)
    (v : Value) (n : Nat) (xs : List Value) (hown : w.ownsRow 0 e size v n xs)
    (a : Option Addr) (m c : Nat) (news : List Value) (hr : Row w size a m news) (h1 : ∀ u ∈ news, u.oneCell' = true)
    (h63 : n + m ≤ maxLen) (hbytes : (n + m) * bytes ≤ 140737488355328) :
    ∃ v' w', (Builtin.append_ #[t, t] ty #[v, .slice a m c]).run P w = .ok v' w' ∧ w'.ownsRow 0 e size v' (n + m) (xs ++ news) ∧ w.grownBy w' v.ownBlock ∧ (v'.ownBlock = v.ownBlock ∨ v'.ownBlock = some w.heap.size) := by
  cases a with
  | none =>
    have h0 : news = [] := by
      cases news with
      | nil => rfl
      | cons x r => obtain ⟨_, _, e, _⟩ := hr.at_ 0 x rfl; cases e
    have hm : m = 0 := by
      have := hr.len
      rw [h0, List.length_nil] at this
      rcases Nat.mul_eq_zero.1 this.symm with h | h <;> omega
    subst h0 hm
    refine ⟨v, w, ?_, by simpa using hown, ⟨rfl, rfl, rfl, Nat.le_refl _, fun _ _ _ => rfl⟩, .inl rfl⟩
    rcases hown.2 with ⟨rfl, rfl⟩ | ⟨g, cap, cur, rfl, _, _, hnc, _⟩
    · simp [Builtin.append_, run_underlying ht, sizeOf, typeInfo, hi, Builtin.lenOf, Builtin.firstCells]
    · simp [Builtin.append_, run_underlying ht, sizeOf, typeInfo, hi, Builtin.lenOf, Builtin.firstCells, hnc, storeCells]
  | some ad =>
    obtain ⟨v', w', hrun, h2, h3, _, h5⟩ := run_append_own_at (P := P) w 0 t ty e i z size bytes ht hi hz hsize hby hzs hsz v n xs hown ad m c news hr.len (fun j u hu => by
      obtain ⟨b, off, e', hc⟩ := hr.at_ j u hu
      cases e'
      have : (⟨b, off, none⟩ : Addr).add j = ⟨b, off + j, none⟩ := by unfold Addr.add; by_cases h : j = 0 <;> simp [h]
      rw [this]; exact hc) h1 h63 hbytes (Nat.zero_le _)
    exact ⟨v', w', hrun, h2, h3, h5⟩
theorem wp_append_row {o : Oper} {a : Act} {K : Act → World → Prop} {Q : Exit → Act → World → Prop} (s x : Operand) (t : TypeId)
    (ho : o.op = .call { callee := .builtin .append, args := #[s, x], argTypes := #[t, t] })
    (e : TypeId) (i : TypeInfo) (z : Value) (size bytes : Nat) (ht : P.underlying t = some (.slice e)) (hi : P.info? e = some i) (hz : i.zero = some z)
    (hsize : i.size = size) (hby : i.bytes = bytes) (hzs : z.cells.size = size) (hsz : 0 < size)
    (v : Value) (n : Nat) (xs : List Value) (hs : a.eval s = v) (hown : w.ownsRow 0 e size v n xs)
    (ad : Option Addr) (m c : Nat) (news : List Value) (hx : a.eval x = .slice ad m c) (hr : Row w size ad m news) (h1 : ∀ u ∈ news, u.oneCell' = true)
    (h63 : n + m ≤ maxLen) (hbytes : (n + m) * bytes ≤ 140737488355328)
    (h : ∀ v' w', w'.ownsRow 0 e size v' (n + m) (xs ++ news) → w.grownBy w' v.ownBlock → (v'.ownBlock = v.ownBlock ∨ v'.ownBlock = some w.heap.size) → K (a.put o.dst v') w') : o.wp P a w K Q := by
  obtain ⟨v', w', hr, h2, h3, h4⟩ := run_append_row (P := P) w t o.type e i z size bytes ht hi hz hsize hby hzs hsz v n xs hown ad m c news hr h1 h63 hbytes
  unfold Oper.wp execOp
  simp only [ho, resolve, invoke, builtin, Sem.run_bind, Sem.run_pure, Result.andThen_ok, List.map_toArray, List.map_cons, List.map_nil, hs, hx, hr]
  exact h v' w' h2 h3 h4
theorem wpList_append_row {ops : Array Oper} {rest : List Oper} {o : Oper} {a : Act} {Q : Exit → Act → World → Prop} (hgd : o.guard = none) (s x : Operand) (t : TypeId)
    (ho : o.op = .call { callee := .builtin .append, args := #[s, x], argTypes := #[t, t] })
    (e : TypeId) (i : TypeInfo) (z : Value) (size bytes : Nat) (ht : P.underlying t = some (.slice e)) (hi : P.info? e = some i) (hz : i.zero = some z)
    (hsize : i.size = size) (hby : i.bytes = bytes) (hzs : z.cells.size = size) (hsz : 0 < size)
    (v : Value) (n : Nat) (xs : List Value) (hs : a.eval s = v) (hown : w.ownsRow 0 e size v n xs)
    (ad : Option Addr) (m c : Nat) (news : List Value) (hx : a.eval x = .slice ad m c) (hr : Row w size ad m news) (h1 : ∀ u ∈ news, u.oneCell' = true)
    (h63 : n + m ≤ maxLen) (hbytes : (n + m) * bytes ≤ 140737488355328)
    (h : ∀ v' w', w'.ownsRow 0 e size v' (n + m) (xs ++ news) → w.grownBy w' v.ownBlock → (v'.ownBlock = v.ownBlock ∨ v'.ownBlock = some w.heap.size) → wpList P ops Q rest (a.put o.dst v') w') :
    wpList P ops Q (o :: rest) a w := by
  refine wpList_plain hgd fun K hK => ?_
  exact wp_append_row w s x t ho e i z size bytes ht hi hz hsize hby hzs hsz v n xs hs hown ad m c news hx hr h1 h63 hbytes (fun v' w' h2 h3 h4 => hK _ _ (h v' w' h2 h3 h4))
end
end Go.Tre
namespace Go.Proofs.YtcpcheengfgpaaaGreatDoor.rep
open Go.RowKit Go.Tre Go.Maps
abbrev nilS : Value := .slice none 0 0
theorem infoR : (Tryz.prog.info? 179).map (fun i => (i.zero, i.size)) = some (some (.agg (Array.replicate 257 nilS)), 257) := by kernel_rfl
/-- a byte's replacement: a backslash, and this byte -/
def newK : Nat → UInt8
  | 0 => 110
  | 1 => 34
  | _ + 2 => 92
/-- the six texts in memory -/
structure OldAt (w : World) (B gO cO : Nat) : Prop where
  ptr : w.cell? ⟨B, 4, none⟩ = some (.slice (some ⟨gO, 0, none⟩) 6 cO)
  old : ∀ k, k < 3 → w.cell? ⟨gO, 2 * k, none⟩ = some (.string ⟨#[topK (2 - k)]⟩)
  new : ∀ k, k < 3 → w.cell? ⟨gO, 2 * k + 1, none⟩ = some (.string ⟨#[92, newK (2 - k)]⟩)
theorem OldAt.below {w w' : World} {B gO cO : Nat} (h : OldAt w B gO cO) (b : Below w.heap.size w w') : OldAt w' B gO cO :=
  ⟨cell_below b h.ptr, fun k hk => cell_below b (h.old k hk), fun k hk => cell_below b (h.new k hk)⟩
theorem infoS : (Tryz.prog.info? 9).map (fun i => (i.zero, i.size, i.bytes)) = some (some (.string ByteArray.empty), 1, 16) := by kernel_rfl
theorem made_s3 (w : World) : ∃ wm, (Instr.makeSlice 81 (.int .i64 0) (.int .i64 3)).run Tryz.prog w = .ok (.slice (some ⟨w.heap.size, 0, none⟩) 0 3) wm ∧ Mem w wm [rowR 9 1 (.slice (some ⟨w.heap.size, 0, none⟩) 0 3) 0 []] := by
  obtain ⟨ti, T1, hq⟩ := Option.map_eq_some_iff.1 infoS
  rw [Prod.mk.injEq, Prod.mk.injEq] at hq
  obtain ⟨T2, T3, T4⟩ := hq
  obtain ⟨wm, hmk, hmo, hmg⟩ := run_make_own (P := Tryz.prog) w 0 81 9 ti _ 1 Tryz.underlying81 T1 T2 T3 .i64 .i64 3 (by rw [T4]; omega) (by unfold maxLen; omega) (Nat.zero_le _)
  exact ⟨wm, hmk, (Mem.nil w).add hmg (rowR 9 1 _ 0 []) hmo (fun b hb => by have : some w.heap.size = some b := hb; cases this; exact Nat.le_refl _)⟩
/-- a replacement in memory: two bytes -/
def bytR (g : Nat) (x y : UInt8) : Res where
  own b := b = g
  P w := w.cell? ⟨g, 0, none⟩ = some (ub x) ∧ w.cell? ⟨g, 1, none⟩ = some (ub y)
  stable w w' h hs := by
    have e := hs g rfl
    exact ⟨by rw [← h.1]; unfold World.cell?; simp only [e], by rw [← h.2]; unfold World.cell?; simp only [e]⟩
  has w h b hb := by subst hb; exact World.block_lt_of_cell? w _ h.1
theorem topK_ne {k j : Nat} (h : k < 3) (hj : j < k) : topK k ≠ topK j := by
  match k, j, h, hj with
  | 1, 0, _, _ => decide
  | 2, 0, _, _ => decide
  | 2, 1, _, _ => decide
/-- what stands in the replacer's block as soon as k of the bytes are in -/
structure RowsK (k : Nat) (cs : Array Value) (top : Value) (ts : List Value) (L : List Res) : Prop where
  size : cs.size = 257
  top : cs[256]? = some top
  ts : ts = (List.range k).map (fun j => .string ⟨#[topK j]⟩)
  no : ∀ b : UInt8, (∀ j, j < k → b ≠ topK j) → cs[b.toNat]? = some nilS
  yes : ∀ j, j < k → ∃ g c, cs[(topK j).toNat]? = some (.slice (some ⟨g, 0, none⟩) 2 c) ∧ 2 ≤ c ∧ bytR g 92 (newK j) ∈ L
theorem RowsK.next {k : Nat} {cs : Array Value} {top top' : Value} {ts : List Value} {L : List Res} (h : RowsK k cs top ts L) (hk : k < 3) (g c : Nat) (hc : 2 ≤ c) :
    RowsK (k + 1) ((cs.setIfInBounds 256 top').setIfInBounds (topK k).toNat (.slice (some ⟨g, 0, none⟩) 2 c)) top' (ts ++ [.string ⟨#[topK k]⟩]) (L ++ [bytR g 92 (newK k)]) := by
  have hb : (topK k).toNat < 256 := (topK k).toNat_lt
  refine ⟨by rw [Array.size_setIfInBounds, Array.size_setIfInBounds, h.size], ?_, by rw [h.ts, List.range_succ, List.map_append]; rfl, fun b hn => ?_, fun j hj => ?_⟩
  · rw [Array.getElem?_setIfInBounds_ne (by omega), Array.getElem?_setIfInBounds_self_of_lt (by rw [h.size]; omega)]
  · have h1 : b.toNat < 256 := b.toNat_lt
    have h2 : b ≠ topK k := hn k (by omega)
    have h3 : (topK k).toNat ≠ b.toNat := fun e => h2 (UInt8.toNat_inj.1 e.symm)
    rw [Array.getElem?_setIfInBounds_ne h3, Array.getElem?_setIfInBounds_ne (by omega)]
    exact h.no b (fun j hj => hn j (by omega))
  · by_cases e : j = k
    · subst e
      exact ⟨g, c, by rw [Array.getElem?_setIfInBounds_self_of_lt (by rw [Array.size_setIfInBounds, h.size]; omega)], hc, by simp⟩
    · have hj' : j < k := by omega
      obtain ⟨g', c', h1, h2, h3⟩ := h.yes j hj'
      have h4 : (topK k).toNat ≠ (topK j).toNat := fun e => topK_ne hk hj' (UInt8.toNat_inj.1 e)
      have h5 : (topK j).toNat < 256 := (topK j).toNat_lt
      exact ⟨g', c', by rw [Array.getElem?_setIfInBounds_ne h4, Array.getElem?_setIfInBounds_ne (by omega)]; exact h1, h2, List.mem_append.2 (.inl h3)⟩
theorem newK_top : ∀ {j : Nat}, j < 3 → newK j = newB (topK j)
  | 0, _ => by decide
  | 1, _ => by decide
  | 2, _ => by decide
  | j + 3, h => by omega
/-- the whole replacer -/
theorem RowsK.done {w0 w : World} {R : Nat} {cs : Array Value} {top : Value} {ts : List Value} {L : List Res} {t : TypeId} (h : RowsK 3 cs top ts L) (M : Mem w0 w [rowR 9 1 top 3 ts, cellsR R t cs, manyR L]) : RepAt w R := by
  refine ⟨fun b hb => ?_, fun b hb => ?_, ?_⟩
  · refine M.cell 1 rfl _ (h.no b (fun j hj e => ?_))
    rw [e, topK_spec] at hb
    cases hb
  · obtain ⟨j, hj, rfl⟩ : ∃ j, j < 3 ∧ b = topK j := by
      simp only [specB, Bool.or_eq_true, beq_iff_eq] at hb
      rcases hb with e | e | e
      · exact ⟨0, by omega, e⟩
      · exact ⟨1, by omega, e⟩
      · exact ⟨2, by omega, e⟩
    obtain ⟨g, c, h1, h2, h3⟩ := h.yes j hj
    have hp : (bytR g 92 (newK j)).P w := (M.at_ 2 rfl : (manyR L).P w) _ h3
    exact ⟨g, 0, c, 92, newK j, M.cell 1 rfl _ h1, h2, hp.1, hp.2, rfl, newK_top hj⟩
  · have hts := h.ts
    obtain ⟨gT, cT, rfl, _, _⟩ := M.pos 0 rfl
    exact ⟨gT, cT, M.cell 1 rfl _ h.top, M.cellAt 0 rfl 0 (by rw [hts]; rfl), M.cellAt 0 rfl 1 (by rw [hts]; rfl), M.cellAt 0 rfl 2 (by rw [hts]; rfl)⟩
theorem eq_none (W : World) : (Go.binOp BinOp.eql 100 (.slice none 0 0) (.slice none 0 0)).run Tryz.prog W = .ok (.bool true) W := by kernel_rfl
/-- the bytes of a text of two, made -/
theorem bytes_two (w : World) (x y : UInt8) : ∃ c w', (convert 9 100 (.string ⟨#[x, y]⟩)).run Tryz.prog w = .ok (.slice (some ⟨w.heap.size, 0, none⟩) 2 c) w' ∧ 2 ≤ c ∧
    ∀ (w0 : World) (rs : List Res), Mem w0 w rs → Mem w0 w' (bytR w.heap.size x y :: rs) := by
  refine ⟨_, _, run_bytes_of_string w 9 100 5 ⟨#[x, y]⟩ Tryz.underlying9 Tryz.underlying100 Tryz.underlying5, grownCap_ge w 2 0 _, fun w0 rs M => ?_⟩
  have hat : ∀ (W : World) (cs : Array Value) (ty : TypeId) (fz : Nat × Nat) (j : Nat), (W.alloc (.cells cs ty fz)).cell? ⟨W.heap.size, j, none⟩ = cs[j]? := fun W cs ty fz j => by
    have h : (W.alloc (.cells cs ty fz)).heap[W.heap.size]? = some (.cells cs ty fz) := by show (W.heap.push _)[W.heap.size]? = _; simp
    simp only [World.cell?, h]
    rfl
  refine M.drew.add (World.grownBy_alloc _ _ none) (bytR w.heap.size x y) ⟨?_, ?_⟩ (fun b hb => Nat.le_of_eq hb.symm)
  · exact (hat w.drew _ _ _ 0).trans (bytesRow_at ⟨#[x, y]⟩ _ 0 (by show 0 < 2; omega))
  · exact (hat w.drew _ _ _ 1).trans (bytesRow_at ⟨#[x, y]⟩ _ 1 (by show 1 < 2; omega))
/-- the text of a slice of one byte -/
theorem text_one (w : World) (b : UInt8) : (convert 100 9 (.slice (some ⟨w.heap.size, 0, none⟩) 1 1)).run Tryz.prog (w.alloc (.cells #[.int .u8 (b.toNat : Int)] 5)) = .ok (.string ⟨#[b]⟩) (w.alloc (.cells #[.int .u8 (b.toNat : Int)] 5)) :=
  run_convert_bytes_back (P := Tryz.prog) _ 100 9 5 ⟨w.heap.size, 0, none⟩ 1 [b] Tryz.underlying100 Tryz.underlying5 Tryz.underlying9 (fun j hj => by
    match j, hj with
    | 0, _ => exact cell_one_new w _ _ 0 _ rfl)
set_option maxRecDepth 100000 in
set_option maxHeartbeats 8000000 in
theorem build_any (B gO cO : Nat) (w : World) (hr : OldAt w B gO cO) :
    Calls Tryz.prog 64 #[.pointer (some ⟨B, 0, none⟩)] w fun e w' => ∃ R : Nat, e = .returned (.iface 180 (.pointer (some ⟨R, 0, none⟩))) ∧ RepAt w' R ∧ Below w.heap.size w w' := by
  have HR := Tre.hid hr
  have c4 := hr.ptr
  have c00 := hr.old 0 (by omega)
  rw [Nat.mul_zero] at c00
  clear hr
  go_enter Tryz.func64, Tryz.ntmps64
  go_wp2_with fail
  clear c00 c4
  go_loopw [4, 5] (fun v4 v5 wr => ∃ k : Nat, k ≤ 3 ∧ v5 = .int .i64 ((2 * k : Nat) : Int) ∧ v4 = .bool (decide (k = 0)) ∧ wr = w)
    (fun _ v5 _ => 6 - (intOf v5).toNat)
  case atStart => exact ⟨0, by omega, rfl, rfl, rfl⟩
  case round =>
  obtain ⟨k, hk, rfl, rfl, rfl⟩ := hrel
  by_cases hlt : k < 3
  · have i6 : ((2 * k : Nat) : Int) < 6 := by omega
    have i6n : 2 * k < 6 := by omega
    have c1 := HR.out.old k hlt
    have c2 := HR.out.new k hlt
    have hw1 : IntKind.i64.wrap (2 * (k : Int) + 1) = ((2 * k + 1 : Nat) : Int) := by rw [IntWalk.i64_in _ ⟨by omega, by omega⟩]; omega
    have hw2 : IntKind.i64.wrap (2 * (k : Int) + 2) = ((2 * (k + 1) : Nat) : Int) := by rw [IntWalk.i64_in _ ⟨by omega, by omega⟩]; omega
    have i7n : 2 * k + 1 < 6 := by omega
    go_wp2_with fail
    go_roundw
    case rel => exact ⟨k + 1, by omega, by go_num, by simp, trivial⟩
    case measure => simp [intOf]; omega
  · have e : k = 3 := by omega
    subst e
    rw [show decide ((3 : Nat) = 0) = false from rfl, show ((2 * 3 : Nat) : Int) = 6 from rfl]
    obtain ⟨wm, hmk, M0⟩ := made_s3 wr
    have HM0 := Tre.hid M0
    have hz := (zero_of_info (t := 179) infoR).1
    have hst := run_storeCells_new (P := Tryz.prog) wm 179 (Array.replicate 257 nilS) ((Array.replicate 257 nilS).setIfInBounds 256 (.slice (some ⟨wr.heap.size, 0, none⟩) 0 3)) (by rw [Array.size_setIfInBounds, Array.size_replicate]; exact (zero_of_info (t := 179) infoR).2) (by rw [Array.size_setIfInBounds]) (by
      rw [Array.all_eq_true']
      intro x hx
      rcases Array.mem_or_eq_of_mem_setIfInBounds hx with h | h
      · rw [Array.eq_of_mem_replicate h]; rfl
      · rw [h]; rfl)
    rw [Array.toList_setIfInBounds] at hst
    have hsz0 : (Array.replicate 257 nilS).size = 257 := Array.size_replicate
    have hgz : ∀ b : Nat, b < 257 → (Array.replicate 257 nilS)[b]? = some nilS := fun b hb => by rw [Array.getElem?_replicate, if_pos hb]
    generalize (Array.replicate 257 nilS) = Z0 at *
    have HZ0 := Tre.hid hgz
    clear hgz
    have M1 := ((M0.allocR (Z0.setIfInBounds 256 (.slice (some ⟨wr.heap.size, 0, none⟩) 0 3)) 179).front 1 rfl)
    have M2 : Mem wr _ [rowR 9 1 (.slice (some ⟨wr.heap.size, 0, none⟩) 0 3) 0 [], cellsR wm.heap.size 179 (Z0.setIfInBounds 256 (.slice (some ⟨wr.heap.size, 0, none⟩) 0 3)), manyR []] := M1.addMany.perm (by
      refine (List.Perm.swap _ _ _).trans (List.Perm.cons _ (List.Perm.swap _ _ _)))
    have HM2 := Tre.hid M2
    have HK : Hid (RowsK 0 (Z0.setIfInBounds 256 (.slice (some ⟨wr.heap.size, 0, none⟩) 0 3)) (.slice (some ⟨wr.heap.size, 0, none⟩) 0 3) [] []) :=
      ⟨by rw [Array.size_setIfInBounds, hsz0], by rw [Array.getElem?_setIfInBounds_self_of_lt (by rw [hsz0]; omega)], rfl, fun b _ => by
        have h1 : b.toNat < 256 := b.toNat_lt
        rw [Array.getElem?_setIfInBounds_ne (by omega)]; exact HZ0.out _ (by omega), fun j hj => by omega⟩
    clear M0 M1 M2
    go_wp2_with fail
    clear hmk hz hst hsz0
    generalize hR : wm.heap.size = R at *
    clear hR
    generalize (wm.alloc _) = wn at *
    generalize (Z0.setIfInBounds 256 _) = cs0 at *
    obtain ⟨ii, I1, I2, I3, I4⟩ := info_parts infoS
    have J1 := Tre.hid I1
    have J2 := Tre.hid I2
    have J3 := Tre.hid I3
    have J4 := Tre.hid I4
    clear I1 I2 I3 I4 HM0 HZ0
    obtain ⟨wo, rfl⟩ : ∃ wo : World, wo = wr := ⟨_, rfl⟩
    go_loopw [12] (fun v12 wr => ∃ (k : Nat) (cs : Array Value) (top : Value) (ts : List Value) (L : List Res), k ≤ 3 ∧ v12 = .int .i64 (4 - 2 * (k : Int)) ∧ Hid (RowsK k cs top ts L) ∧ Hid (Mem wo wr [rowR 9 1 top k ts, cellsR R 179 cs, manyR L]))
      (fun v12 _ => (intOf v12 + 2).toNat)
    case atStart => exact ⟨0, _, _, _, _, by omega, rfl, HK.out, HM2.out⟩
    case round =>
    clear HM2 HK
    obtain ⟨k, cs, top, ts, L, hk, rfl, HK, HM⟩ := hrel
    by_cases hlt : k < 3
    · obtain ⟨j, hj⟩ : ∃ j, k + j = 2 := ⟨2 - k, by omega⟩
      have e : (4 - 2 * (k : Int)) = ((2 * j : Nat) : Int) := by omega
      rw [e]
      clear e
      have hj0 : (0 : Int) ≤ 2 * (j : Int) := by omega
      have c1 := cell_below HM.out.below (HR.out.old j (by omega))
      have c2 := cell_below HM.out.below (HR.out.new j (by omega))
      have hjk : 2 - j = k := by omega
      rw [hjk] at c1 c2
      have i6 : ((2 * j : Nat) : Int) < 6 := by omega
      have i6n : 2 * j < 6 := by omega
      have i7n : 2 * j + 1 < 6 := by omega
      have hw1 : IntKind.i64.wrap (2 * (j : Int) + 1) = ((2 * j + 1 : Nat) : Int) := by rw [IntWalk.i64_in _ ⟨by omega, by omega⟩]; omega
      have hw2 : IntKind.i64.wrap (2 * (j : Int) - 2) = 2 * (j : Int) - 2 := IntWalk.i64_in _ ⟨by omega, by omega⟩
      have hbb : (topK k).toNat < 256 := (topK k).toNat_lt
      have hbb9 : ((topK k).toNat : Int) < 256 := by omega
      have r0 := HM.out.cell 1 rfl _ (HK.out.no (topK k) (fun j hj => topK_ne hlt hj))
      have rT := HM.out.cell 1 rfl 256 HK.out.top
      have e0 := eq_none
      have hcv := text_one wr (topK k)
      have HKN := Tre.hid (fun (top' : Value) (g c : Nat) (hc : 2 ≤ c) => HK.out.next (top' := top') hlt g c hc)
      have HT := Tre.hid HK.out.top
      have HB0 : Hid (∀ v : Value, (cs.setIfInBounds 256 v)[(topK k).toNat]? = some nilS) := fun v => by
        rw [Array.getElem?_setIfInBounds_ne (by omega)]; exact HK.out.no (topK k) (fun j hj => topK_ne hlt hj)
      clear HK
      generalize hX : topK k = bb at *
      generalize hY : newK k = nb at *
      clear hX hY
      have hbd : ∀ h : 0 < (⟨#[bb]⟩ : ByteArray).size, (⟨#[bb]⟩ : ByteArray)[0]'h = bb := fun _ => rfl
      have HMA := Tre.hid ((HM.out.alloc (.cells #[.int .u8 (bb.toNat : Int)] 5)).alloc (.cells #[.string ⟨#[bb]⟩] 9))
      have HNEW : Hid (∀ j u, [Value.string ⟨#[bb]⟩][j]? = some u → ((wr.alloc (.cells #[.int .u8 (bb.toNat : Int)] 5)).alloc (.cells #[.string ⟨#[bb]⟩] 9)).cell? ((⟨wr.heap.size + 1, 0, none⟩ : Addr).add j) = some u) := by
        have h := cell_one_new (wr.alloc (.cells #[.int .u8 (bb.toNat : Int)] 5)) (.string ⟨#[bb]⟩) 9
        rw [show (wr.alloc (.cells #[.int .u8 (bb.toNat : Int)] 5)).heap.size = wr.heap.size + 1 by simp] at h
        exact h
      clear HM
      go_wp2_with (at_builtin; go_loud (refine wpList_append_own_at _ rfl _ _ 81 rfl 0 9 ii _ 1 16 Tryz.underlying81 J1.out J2.out J3.out J4.out rfl (by omega) top k ts rfl (HMA.out.row 0 rfl) ⟨wr.heap.size + 1, 0, none⟩ 1 1 [.string ⟨#[bb]⟩] rfl rfl HNEW.out (by simp [Value.oneCell']) (by unfold maxLen; omega) (by omega) (Nat.zero_le _) ?_; intro v' w4 hown4 hgrow4 hnil4 hat4; obtain ⟨gv, cv, rfl⟩ := ownsRow_succ hown4; have M4 := HMA.out.grow 0 rfl hgrow4 hown4 hat4; have q4 := M4.cell 1 rfl 256 (HT.out); have f4 := M4.free 1 rfl 256; have M5 := M4.setCell 1 rfl 256 (.slice (some ⟨gv, 0, none⟩) (k + 1) cv); obtain ⟨cb, w6, hconv, hcb, hmem⟩ := bytes_two (w4.setCell ⟨R, 256, none⟩ (.slice (some ⟨gv, 0, none⟩) (k + 1) cv)) 92 nb; generalize (w4.setCell ⟨R, 256, none⟩ (.slice (some ⟨gv, 0, none⟩) (k + 1) cv)).heap.size = G at hconv hmem; have M6 := hmem _ _ M5; have q6 := M6.cell 2 rfl bb.toNat (HB0.out _); have f6 := M6.free 2 rfl bb.toNat; have HM7 := Tre.hid (M6.setCell 2 rfl bb.toNat (.slice (some ⟨G, 0, none⟩) 2 cb)); clear M4 M5 M6 hmem hown4 hgrow4 hnil4 hat4 hcv))
      go_roundw
      case rel =>
        have h := (((HM7.out.front 3 rfl).front 1 rfl).into.front 2 rfl).front 2 rfl
        exact ⟨k + 1, _, _, _, _, by omega, by congr 1; omega, HKN.out _ G cb hcb, h⟩
      case measure => simp [intOf]; omega
    · have e : k = 3 := by omega
      subst e
      rw [show ((3 : Nat) : Int) = 3 from rfl, show ((4 : Int) - 2 * 3) = -2 from rfl]
      have hrep := HK.out.done HM.out
      have hbel := HM.out.below
      clear HK HM
      go_wp2_with fail
      go_ret
      exact ⟨R, rfl, hrep, hbel⟩
end Go.Proofs.YtcpcheengfgpaaaGreatDoor.rep
namespace Go.Proofs.YtcpcheengfgpaaaGreatDoor.rep
open Go.RowKit Go.Tre
theorem disable (w : World) : (callFunc 114 #[]).run Tryz.prog w = .ok (.value (.tuple #[])) w := run_call_mark0 Tryz.func114 (by kernel_rfl) (by kernel_rfl) (by kernel_rfl) .disable (by kernel_rfl) w
theorem enable (w : World) : (callFunc 116 #[]).run Tryz.prog w = .ok (.value (.tuple #[])) w := run_call_mark0 Tryz.func116 (by kernel_rfl) (by kernel_rfl) (by kernel_rfl) .enable (by kernel_rfl) w
theorem acquire (a : Addr) (w : World) : (callFunc 117 #[.pointer (some a)]).run Tryz.prog w = .ok (.value (.tuple #[])) w := run_call_marked Tryz.func117 (by kernel_rfl) (by kernel_rfl) (by kernel_rfl) .acquire (by kernel_rfl) a w
theorem releaseMerge (a : Addr) (w : World) : (callFunc 119 #[.pointer (some a)]).run Tryz.prog w = .ok (.value (.tuple #[])) w := run_call_marked Tryz.func119 (by kernel_rfl) (by kernel_rfl) (by kernel_rfl) .releaseMerge (by kernel_rfl) a w
/-- Bool.Store(true), deferred -/
theorem store_deferred (a : Addr) (x : Value) (u : FrameMode) (w : World) (hc : w.cell? a = some x) (hz : w.frozen? a = false) :
    CallsD Tryz.prog 88 #[.pointer (some a), .bool true] u w fun e u' w' => u' = u ∧ (e = .returned (.tuple #[]) ∧ w' = w.drew.setCell a (.int .u32 1)) := by
  have hc' : w.drew.cell? a = some x := by go_simp
  have hz' : w.drew.frozen? a = false := by go_simp
  have hst := run_call_store (P := Tryz.prog) Tryz.func104 (by kernel_rfl) (by kernel_rfl) (by kernel_rfl) (by kernel_rfl) (k := .u32) (y := 1) hc' hz'
  go_enter_d Tryz.func88, Tryz.ntmps88
  go_wp2
  go_region_calls
  all_goals (go_end0; exact ⟨rfl, rfl⟩)
set_option maxRecDepth 100000 in
/-- Mutex.Unlock, deferred, the lock held, nobody waiting -/
theorem unlock_deferred (a : Addr) (u : FrameMode) (w : World) (hc : w.cell? a = some (.int .i32 1)) (hz : w.frozen? a = false) :
    CallsD Tryz.prog 87 #[.pointer (some a)] u w fun e u' w' => u' = u ∧ (e = .returned (.tuple #[]) ∧ w' = w.setCell a (.int .i32 0)) := by
  have hd := disable
  have he := enable
  have hr := releaseMerge
  have hadd := run_call_add (P := Tryz.prog) Tryz.func120 (by kernel_rfl) (by kernel_rfl) (by kernel_rfl) .i32 (by kernel_rfl) (y := -1) (s := 0) hc hz (by simp [go_sem]; rfl)
  first
    | have hcv := run_convert_to_unsafe (P := Tryz.prog) (src := 214) (dst := 69) Tryz.underlying214 Tryz.underlying69 (by kernel_rfl) hc
    | have hcv := run_convert_to_unsafe (P := Tryz.prog) (src := 221) (dst := 69) Tryz.underlying221 Tryz.underlying69 (by kernel_rfl) hc
  go_enter_d Tryz.func87, Tryz.ntmps87
  go_wp2
  go_end0
  go_wp2
  go_end0
  exact ⟨rfl, rfl⟩
set_option maxRecDepth 100000 in
/-- Mutex.Lock, the lock free -/
theorem lock_free (a : Addr) (w : World) (hc : w.cell? a = some (.int .i32 0)) (hz : w.frozen? a = false) :
    Calls Tryz.prog 86 #[.pointer (some a)] w fun e w' => e = .returned (.tuple #[]) ∧ w' = w.setCell a (.int .i32 1) := by
  have hd := disable
  have he := enable
  have ha := acquire
  have hcas := run_call_cas_hit (P := Tryz.prog) Tryz.func115 (by kernel_rfl) (by kernel_rfl) (by kernel_rfl) .i32 (by kernel_rfl) (y := 1) hc hz
  have hc' : (w.setCell a (.int .i32 1)).cell? a = some (.int .i32 1) := World.cell?_setCell_same w a _ hc
  first
    | have hcv := run_convert_to_unsafe (P := Tryz.prog) (src := 214) (dst := 69) Tryz.underlying214 Tryz.underlying69 (by kernel_rfl) hc'
    | have hcv := run_convert_to_unsafe (P := Tryz.prog) (src := 221) (dst := 69) Tryz.underlying221 Tryz.underlying69 (by kernel_rfl) hc'
  go_enter Tryz.func86, Tryz.ntmps86
  go_wp2
  first | go_end0 | (simp only [Exit.inBlock, Exit.then]; refine bodyPost_ret (results_none rfl _ _ _) rfl ?_) | refine bodyPost_ret (results_none rfl _ _ _) rfl ?_
  go_wp2
  go_end0
  exact ⟨rfl, rfl⟩
end Go.Proofs.YtcpcheengfgpaaaGreatDoor.rep
namespace Go.Proofs.YtcpcheengfgpaaaGreatDoor.rep
open Go.RowKit Go.Tre Go.Maps
theorem cell_ne {w : World} {a b : Addr} {x y : Value} (ha : w.cell? a = some x) (hb : w.cell? b = some y) (h : x ≠ y) : a ≠ b := fun e => by
  subst e
  rw [ha] at hb
  exact h (Option.some.inj hb)
theorem RepAt.set {w : World} {R : Nat} (h : RepAt w R) (b i : Nat) (x v : Value) (hb : b ≠ R) (hx : w.cell? ⟨b, i, none⟩ = some x) (hn : ∀ n, x ≠ .int .u8 n) (hs : ∀ s, x ≠ .string s) : RepAt (w.setCell ⟨b, i, none⟩ v) R := by
  have hR : ∀ j : Nat, (w.setCell ⟨b, i, none⟩ v).cell? ⟨R, j, none⟩ = w.cell? ⟨R, j, none⟩ := fun j => World.cell?_setCell_other _ _ _ _ (fun e => hb (congrArg Addr.block e))
  have hI : ∀ (a : Addr) (n : Int), w.cell? a = some (.int .u8 n) → (w.setCell ⟨b, i, none⟩ v).cell? a = some (.int .u8 n) := fun a n ha => (World.cell?_setCell_other _ _ _ _ (cell_ne hx ha (hn n))).trans ha
  have hS : ∀ (a : Addr) (s : ByteArray), w.cell? a = some (.string s) → (w.setCell ⟨b, i, none⟩ v).cell? a = some (.string s) := fun a s ha => (World.cell?_setCell_other _ _ _ _ (cell_ne hx ha (hs s))).trans ha
  refine ⟨fun c hc => (hR _).trans (h.no c hc), fun c hc => ?_, ?_⟩
  · obtain ⟨g, o, k, y, z, h1, h2, h3, h4, h5⟩ := h.yes c hc
    exact ⟨g, o, k, y, z, (hR _).trans h1, h2, hI _ _ h3, hI _ _ h4, h5⟩
  · obtain ⟨gT, cT, h1, h2, h3, h4⟩ := h.top
    exact ⟨gT, cT, (hR _).trans h1, hS _ _ h2, hS _ _ h3, hS _ _ h4⟩
theorem RepAt.ne {w : World} {R B : Nat} {k : IntKind} {n : Int} (h : RepAt w R) (hB : w.cell? ⟨B, 0, none⟩ = some (.int k n)) : B ≠ R := fun e => by
  have h0 := h.no 0 (by decide)
  subst e
  rw [show (0 : UInt8).toNat = 0 from rfl, hB] at h0
  cases h0
abbrev rplV (d s : Int) (q r o : Value) : Array Value := #[.int .u32 d, .int .i32 s, q, r, o]
set_option maxRecDepth 100000 in
set_option maxHeartbeats 4000000 in
theorem buildOnce_any (B gO cO : Nat) (d s : Int) (q : Value) (w0 w : World) (rs : List Res) (M : Mem w0 w (cellsR B 97 (rplV d s q .nilIface (.slice (some ⟨gO, 0, none⟩) 6 cO)) :: rs)) (O : OldAt w B gO cO) :
    Calls Tryz.prog 38 #[.pointer (some ⟨B, 0, none⟩)] w fun e w' => e = .returned (.tuple #[]) ∧ ∃ R, RepAt w' R ∧
      Mem w0 w' (cellsR B 97 (rplV d s q (.iface 180 (.pointer (some ⟨R, 0, none⟩))) (.slice none 0 0)) :: rs) := by
  have HM := Tre.hid M
  have HO := Tre.hid O
  clear M O
  go_enter Tryz.func38, Tryz.ntmps38
  go_wp2_with fail
  refine (build_any B gO cO w HO.out).mono ?_
  rintro e w1 ⟨R, rfl, hR, b⟩
  have M1 := HM.out.quiet b
  have q0 := M1.cell 0 rfl 0 rfl
  have q3 := M1.cell 0 rfl 3 rfl
  have q4 := M1.cell 0 rfl 4 rfl
  have f3 := M1.free 0 rfl 3
  have hBR := RepAt.ne hR q0
  have R1 := RepAt.set hR B 3 _ (.iface 180 (.pointer (some ⟨R, 0, none⟩))) hBR q3 (by intro n h; cases h) (by intro n h; cases h)
  have M2 := M1.setCell 0 rfl 3 (.iface 180 (.pointer (some ⟨R, 0, none⟩)))
  have p4 := M2.cell 0 rfl 4 rfl
  have f4 := M2.free 0 rfl 4
  have HR := Tre.hid (RepAt.set R1 B 4 _ (.slice none 0 0) hBR p4 (by intro n h; cases h) (by intro n h; cases h))
  have HM3 := Tre.hid (M2.setCell 0 rfl 4 (.slice none 0 0))
  clear hR b M1 M2 R1 HM HO
  go_wp2_with fail
  go_end0
  exact ⟨rfl, R, HR.out, HM3.out⟩
theorem load_no (a : Addr) (w : World) (hc : w.cell? a = some (.int .u32 0)) : Calls Tryz.prog 62 #[.pointer (some a)] w fun e w' => e = .returned (.bool false) ∧ w' = w := by
  have hl := run_call_load (P := Tryz.prog) Tryz.func85 (by kernel_rfl) (by kernel_rfl) (by kernel_rfl) .u32 (by kernel_rfl) hc
  go_enter Tryz.func62, Tryz.ntmps62
  go_wp2_with fail
  go_ret
  exact ⟨rfl, rfl⟩
set_option maxRecDepth 100000 in
set_option maxHeartbeats 4000000 in
theorem doSlow_any (B gO cO : Nat) (w0 w : World) (rs : List Res) (M : Mem w0 w (cellsR B 97 (rplV 0 0 (.int .u32 0) .nilIface (.slice (some ⟨gO, 0, none⟩) 6 cO)) :: rs)) (O : OldAt w B gO cO) (hg : gO ≠ B) :
    Calls Tryz.prog 63 #[.pointer (some ⟨B, 0, none⟩), .func (.func 38) #[.pointer (some ⟨B, 0, none⟩)] #[]] w fun e w' => e = .returned (.tuple #[]) ∧ ∃ R, RepAt w' R ∧
      Mem w0 w' (cellsR B 97 (rplV 1 0 (.int .u32 0) (.iface 180 (.pointer (some ⟨R, 0, none⟩))) (.slice none 0 0)) :: rs) := by
  have q0 := M.cell 0 rfl 0 rfl
  have q1 := M.cell 0 rfl 1 rfl
  have f1 := M.free 0 rfl 1
  have M1 := M.setCell 0 rfl 1 (.int .i32 1)
  have f11 := M1.free 0 rfl 1
  have O1 : OldAt (w.setCell ⟨B, 1, none⟩ (.int .i32 1)) B gO cO := ⟨(World.cell?_setCell_other _ _ _ _ (by intro e; cases e)).trans O.ptr, fun k hk => (World.cell?_setCell_other _ _ _ _ (fun e => hg (congrArg Addr.block e).symm)).trans (O.old k hk), fun k hk => (World.cell?_setCell_other _ _ _ _ (fun e => hg (congrArg Addr.block e).symm)).trans (O.new k hk)⟩
  have hL := Tre.hid (load_no ⟨B, 0, none⟩ _ (M1.cell 0 rfl 0 rfl))
  have hnot : ∀ (x : Bool) (w : World), (Op.unary .not (.bool x)).run Tryz.prog w = .ok (.bool (!x)) w := fun _ _ => rfl
  have HM1 := Tre.hid M1
  have HO1 := Tre.hid O1
  clear M M1 O O1
  go_enter_defers Tryz.func63, Tryz.ntmps63
  go_wp2_with (go_at_call 86; refine (lock_free ⟨B, 1, none⟩ _ q1 f1).mono ?_; rintro e w' ⟨rfl, rfl⟩)
  refine hL.out.mono ?_
  rintro e w' ⟨rfl, rfl⟩
  go_wp2_with fail
  refine (buildOnce_any B gO cO 0 1 (.int .u32 0) w0 _ rs HM1.out HO1.out).mono ?_
  rintro e w2 ⟨rfl, R, hR, M2⟩
  have k0 := M2.cell 0 rfl 0 rfl
  have g0 := M2.free 0 rfl 0
  have hBR := RepAt.ne hR k0
  have M3 := M2.drew.setCell 0 rfl 0 (.int .u32 1)
  have hR3 : RepAt (w2.drew.setCell ⟨B, 0, none⟩ (.int .u32 1)) R := RepAt.set (w := w2.drew) ⟨hR.no, hR.yes, hR.top⟩ B 0 _ _ hBR k0 (by intro n h; cases h) (by intro n h; cases h)
  have k1 := M3.cell 0 rfl 1 rfl
  have g1 := M3.free 0 rfl 1
  have HM4 := Tre.hid (M3.setCell 0 rfl 1 (.int .i32 0))
  have HR4 := Tre.hid (RepAt.set hR3 B 1 _ (.int .i32 0) hBR k1 (by intro n h; cases h) (by intro n h; cases h))
  clear M2 M3 hR hR3 HM1 HO1
  go_wp2_with fail
  refine leaves_cons (f := 88) (args := #[.pointer (some ⟨B, 0, none⟩), .bool true]) (by simp) (by simp [go_sem]) ?_
  refine (store_deferred ⟨B, 0, none⟩ (.int .u32 0) .returning _ k0 g0).mono ?_
  rintro e u' w'' ⟨rfl, rfl, rfl⟩
  refine leaves_cons (f := 87) (args := #[.pointer (some ⟨B, 1, none⟩)]) (by simp [settle]) (by simp [go_sem]) ?_
  refine (unlock_deferred ⟨B, 1, none⟩ _ _ k1 g1).mono ?_
  rintro e u' w'' ⟨rfl, rfl, rfl⟩
  have hR4 := HR4.out
  have hM4 := HM4.out
  refine ⟨.tuple #[], ?_, rfl, R, hR4, hM4⟩
  simp [results, Tryz.results63]
set_option maxRecDepth 100000 in
set_option maxHeartbeats 4000000 in
theorem do_any (B gO cO : Nat) (w0 w : World) (rs : List Res) (M : Mem w0 w (cellsR B 97 (rplV 0 0 (.int .u32 0) .nilIface (.slice (some ⟨gO, 0, none⟩) 6 cO)) :: rs)) (O : OldAt w B gO cO) (hg : gO ≠ B) :
    Calls Tryz.prog 37 #[.pointer (some ⟨B, 0, none⟩), .func (.func 38) #[.pointer (some ⟨B, 0, none⟩)] #[]] w fun e w' => e = .returned (.tuple #[]) ∧ ∃ R, RepAt w' R ∧
      Mem w0 w' (cellsR B 97 (rplV 1 0 (.int .u32 0) (.iface 180 (.pointer (some ⟨R, 0, none⟩))) (.slice none 0 0)) :: rs) := by
  have hL := Tre.hid (load_no ⟨B, 0, none⟩ _ (M.cell 0 rfl 0 rfl))
  have hnot : ∀ (x : Bool) (w : World), (Op.unary .not (.bool x)).run Tryz.prog w = .ok (.bool (!x)) w := fun _ _ => rfl
  have HM := Tre.hid M
  have HO := Tre.hid O
  clear M O
  go_enter Tryz.func37, Tryz.ntmps37
  go_wp2_with fail
  refine hL.out.mono ?_
  rintro e w' ⟨rfl, rfl⟩
  go_wp2_with fail
  refine (doSlow_any B gO cO w0 _ rs HM.out HO.out hg).mono ?_
  rintro e w2 ⟨rfl, R, hR, M2⟩
  have HR := Tre.hid hR
  have HM2 := Tre.hid M2
  clear hR M2 HM HO
  go_wp2_with fail
  go_end0
  exact ⟨rfl, R, HR.out, HM2.out⟩
set_option maxRecDepth 100000 in
set_option maxHeartbeats 4000000 in
/-- a new Replacer's first Replace -/
theorem rplReplace_any (B gO cO : Nat) (s : ByteArray) (w0 w : World) (rs : List Res) (M : Mem w0 w (cellsR B 97 (rplV 0 0 (.int .u32 0) .nilIface (.slice (some ⟨gO, 0, none⟩) 6 cO)) :: rs)) (O : OldAt w B gO cO) (hg : gO ≠ B) (hs : s.size ≤ 4194304) :
    Calls Tryz.prog 18 #[.pointer (some ⟨B, 0, none⟩), .string s] w fun e w' => ∃ s' : ByteArray, e = .returned (.string s') ∧ Hid (s'.data.toList = escB s.data.toList) ∧ Below w0.heap.size w0 w' := by
  have HM := Tre.hid M
  have HO := Tre.hid O
  clear M O
  go_enter Tryz.func18, Tryz.ntmps18
  go_wp2_with fail
  refine (do_any B gO cO w0 _ rs HM.out HO.out hg).mono ?_
  rintro e w2 ⟨rfl, R, hR, M2⟩
  have q3 := M2.cell 0 rfl 3 rfl
  have HR := Tre.hid hR
  have HM2 := Tre.hid M2
  clear hR M2 HM HO
  have hmt : ∀ (k : Nat) (w : World), (method (k + 1) 180 (.pointer (some ⟨R, 0, none⟩)) "Replace").run Tryz.prog w = .ok (184, .pointer (some ⟨R, 0, none⟩)) w := fun _ _ => by kernel_rfl
  go_wp2_with fail
  refine (replace_any R s w2 HR.out hs).mono ?_
  rintro e w3 ⟨s', rfl, hsz, b⟩
  have hb := (HM2.out.quiet b).below
  clear b HR HM2
  go_wp2_with fail
  go_ret
  exact ⟨s', rfl, hsz, hb⟩
end Go.Proofs.YtcpcheengfgpaaaGreatDoor.rep
namespace Go.Proofs.YtcpcheengfgpaaaGreatDoor.rep
open Go.RowKit Go.Tre Go.Maps
/-- lex.Put's six texts -/
abbrev sixL : List Value := [.string ⟨#[92]⟩, .string ⟨#[92, 92]⟩, .string ⟨#[34]⟩, .string ⟨#[92, 34]⟩, .string ⟨#[10]⟩, .string ⟨#[92, 110]⟩]
set_option maxRecDepth 100000 in
set_option maxHeartbeats 4000000 in
theorem newReplacer_any (b c : Nat) (w : World) (hc : ∀ j u, sixL[j]? = some u → w.cell? ⟨b, j, none⟩ = some u) :
    Calls Tryz.prog 17 #[.slice (some ⟨b, 0, none⟩) 6 c] w fun e w' => ∃ B gO cO, e = .returned (.pointer (some ⟨B, 0, none⟩)) ∧ gO ≠ B ∧ OldAt w' B gO cO ∧
      Mem w w' [cellsR B 97 (rplV 0 0 (.int .u32 0) .nilIface (.slice (some ⟨gO, 0, none⟩) 6 cO))] := by
  obtain ⟨ii, I1, I2, I3, I4⟩ := info_parts infoS
  have J1 := Tre.hid I1
  have J2 := Tre.hid I2
  have J3 := Tre.hid I3
  have J4 := Tre.hid I4
  have HC : Hid (∀ j u, sixL[j]? = some u → w.cell? ((⟨b, 0, none⟩ : Addr).add j) = some u) := fun j u h => by
    have : (⟨b, 0, none⟩ : Addr).add j = ⟨b, j, none⟩ := by unfold Addr.add; by_cases h : j = 0 <;> simp [h]
    rw [this]; exact hc j u h
  have HM := Tre.hid ((Mem.nil w).addNil 9 1)
  clear I1 I2 I3 I4 hc
  go_enter Tryz.func17, Tryz.ntmps17
  go_wp2_with (at_builtin; go_loud (refine wpList_append_own_at _ rfl _ _ 81 rfl 0 9 ii _ 1 16 Tryz.underlying81 J1.out J2.out J3.out J4.out rfl (by omega) (.slice none 0 0) 0 [] rfl (HM.out.row 0 rfl) ⟨b, 0, none⟩ 6 c sixL rfl rfl HC.out (by intro u hu; simp [sixL] at hu; rcases hu with rfl | rfl | rfl | rfl | rfl | rfl <;> rfl) (by unfold maxLen; omega) (by omega) (Nat.zero_le _) ?_; intro v' w4 hown4 hgrow4 hnil4 hat4; obtain ⟨gv, cv, rfl⟩ := ownsRow_succ hown4; have HM4 := Tre.hid (HM.out.grow 0 rfl hgrow4 hown4 hat4); clear HM hown4 hgrow4 hnil4 hat4))
  have hlt : gv < w4.heap.size := ((HM4.out.row 0 rfl).lt gv rfl).2
  have M5 := HM4.out.allocR (rplV 0 0 (.int .u32 0) .nilIface (.slice (some ⟨gv, 0, none⟩) 6 cv)) 97
  go_ret
  refine ⟨w4.heap.size, gv, cv, rfl, by omega, ⟨M5.cell 0 rfl 4 rfl, fun k hk => ?_, fun k hk => ?_⟩, M5.del 1⟩
  · match k, hk with
    | 0, _ => exact M5.cellAt 1 rfl 0 rfl
    | 1, _ => exact M5.cellAt 1 rfl 2 rfl
    | 2, _ => exact M5.cellAt 1 rfl 4 rfl
  · match k, hk with
    | 0, _ => exact M5.cellAt 1 rfl 1 rfl
    | 1, _ => exact M5.cellAt 1 rfl 3 rfl
    | 2, _ => exact M5.cellAt 1 rfl 5 rfl
end Go.Proofs.YtcpcheengfgpaaaGreatDoor.rep
namespace Go.Proofs.YtcpcheengfgpaaaGreatDoor.rep
open Go.RowKit Go.Tre
set_option maxRecDepth 100000 in
set_option maxHeartbeats 4000000 in
theorem textText (s : ByteArray) (w : World) (hs : s.size ≤ 2097150) :
    Calls Tryz.prog 8 #[.string s] w fun e w' => ∃ x : ByteArray, e = .returned (.string x) ∧ Hid (x.data.toList = 34 :: (escB s.data.toList ++ [34])) ∧ x.size ≤ 4194303 ∧ Below w.heap.size w w' := by
  go_enter Tryz.func8, Tryz.ntmps8
  go_wp2_with fail
  have MA := (Mem.nil w).allocR sixL.toArray 9
  have hc6 : ∀ j u, sixL[j]? = some u → (w.alloc (.cells sixL.toArray 9)).cell? ⟨w.heap.size, j, none⟩ = some u := fun j u hj => MA.cell 0 rfl j (by rw [List.getElem?_toArray]; exact hj)
  have HMA := Tre.hid MA
  clear MA
  refine (newReplacer_any w.heap.size 6 _ hc6).mono ?_
  rintro e w2 ⟨B, gO, cO, rfl, hne, hO, M2⟩
  clear hc6
  have HO := Tre.hid hO
  have HM2 := Tre.hid M2
  clear hO M2
  go_wp2_with fail
  refine (rplReplace_any B gO cO s _ w2 [] HM2.out HO.out hne (by omega)).mono ?_
  rintro e w3 ⟨s', rfl, hs', b3⟩
  have hsz := esc_size hs'
  have HM3 := Tre.hid (HMA.out.quiet b3)
  have hcat1 : ¬ (9223372036854775807 < 1 + s'.size) := by omega
  have hcat2 : ¬ (9223372036854775807 < 1 + s'.size + 1) := by omega
  have hxs : ((⟨#[34]⟩ ++ s' : ByteArray) ++ ⟨#[34]⟩ : ByteArray).size ≤ 4194303 := by
    rw [ByteArray.size_append, ByteArray.size_append]
    show 1 + s'.size + 1 ≤ _
    omega
  have hxl : Hid (((⟨#[34]⟩ ++ s' : ByteArray) ++ ⟨#[34]⟩ : ByteArray).data.toList = 34 :: (escB s.data.toList ++ [34])) := by
    show _ = _
    rw [ByteArray.data_append, ByteArray.data_append, Array.toList_append, Array.toList_append, hs'.out]; rfl
  clear b3 HM2 HO HMA hs' hsz
  go_wp2_with fail
  generalize ((⟨#[34]⟩ ++ s' : ByteArray) ++ ⟨#[34]⟩ : ByteArray) = x at *
  clear hcat1 hcat2
  go_ret
  exact ⟨x, rfl, hxl, hxs, HM3.out.below⟩
end Go.Proofs.YtcpcheengfgpaaaGreatDoor.rep
