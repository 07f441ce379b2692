/- errors.Is at load's errors: a text's error and another one, joined. Layer 7, plain: a type's table; when its names are bound once, and when following them comes to an end. -/
import Derived.Test.YtljmcmdabdlldaaGreatDoorB15
import Derived.Test.YtljmcmdabdlldaaGreatDoorB06
set_option linter.unusedVariables false
namespace Go.Proofs.YtljmcmdabdlldaaGreatDoor.errs
open Go.RowKit Go.Extern.Stop Go.Stop Go.Extern Go.Tre
abbrev vEnd : Value := .iface 64 (.agg #[])
abbrev vTwo : Value := .iface 65 (.agg #[])
theorem jIs (v : Value) (xT : TypeId) (w : World) : (Instr.typeAssert (.iface 171 v) xT 139 true).run Tryz.prog w = .ok (.tuple #[.nilIface, .bool false]) w := run_typeAssert_lacksB Tryz.underlying139 (by kernel_rfl) (by kernel_rfl) v xT w
theorem sIs (v : Value) (xT : TypeId) (w : World) : (Instr.typeAssert (.iface 174 v) xT 139 true).run Tryz.prog w = .ok (.tuple #[.nilIface, .bool false]) w := run_typeAssert_lacksB Tryz.underlying139 (by kernel_rfl) (by kernel_rfl) v xT w
theorem sUn (v : Value) (xT : TypeId) (w : World) : (Instr.typeAssert (.iface 174 v) xT 142 true).run Tryz.prog w = .ok (.tuple #[.nilIface, .bool false]) w := run_typeAssert_lacksB Tryz.underlying142 (by kernel_rfl) (by kernel_rfl) v xT w
theorem sUs (v : Value) (xT : TypeId) (w : World) : (Instr.typeAssert (.iface 174 v) xT 144 true).run Tryz.prog w = .ok (.tuple #[.nilIface, .bool false]) w := run_typeAssert_lacksB Tryz.underlying144 (by kernel_rfl) (by kernel_rfl) v xT w
theorem tIs (v : Value) (xT : TypeId) (w : World) : (Instr.typeAssert (.iface 65 v) xT 139 true).run Tryz.prog w = .ok (.tuple #[.nilIface, .bool false]) w := run_typeAssert_lacksB Tryz.underlying139 (by kernel_rfl) (by kernel_rfl) v xT w
theorem tUn (v : Value) (xT : TypeId) (w : World) : (Instr.typeAssert (.iface 65 v) xT 142 true).run Tryz.prog w = .ok (.tuple #[.nilIface, .bool false]) w := run_typeAssert_lacksB Tryz.underlying142 (by kernel_rfl) (by kernel_rfl) v xT w
theorem tUs (v : Value) (xT : TypeId) (w : World) : (Instr.typeAssert (.iface 65 v) xT 144 true).run Tryz.prog w = .ok (.tuple #[.nilIface, .bool false]) w := run_typeAssert_lacksB Tryz.underlying144 (by kernel_rfl) (by kernel_rfl) v xT w
theorem eqJE (v : Value) (w : World) : (binOp .eql 58 (.iface 171 v) vEnd).run Tryz.prog w = .ok (.bool false) w := by kernel_rfl
theorem eqJT (v : Value) (w : World) : (binOp .eql 58 (.iface 171 v) vTwo).run Tryz.prog w = .ok (.bool false) w := by kernel_rfl
theorem eqSE (v : Value) (w : World) : (binOp .eql 58 (.iface 174 v) vEnd).run Tryz.prog w = .ok (.bool false) w := by kernel_rfl
theorem eqST (v : Value) (w : World) : (binOp .eql 58 (.iface 174 v) vTwo).run Tryz.prog w = .ok (.bool false) w := by kernel_rfl
theorem eqTE (w : World) : (binOp .eql 58 vTwo vEnd).run Tryz.prog w = .ok (.bool false) w := by kernel_rfl
theorem eqTT (w : World) : (binOp .eql 58 vTwo vTwo).run Tryz.prog w = .ok (.bool true) w := by kernel_rfl
theorem eqEE (w : World) : (binOp .eql 58 vEnd vEnd).run Tryz.prog w = .ok (.bool true) w := by kernel_rfl
theorem typeOfEnd (w : World) : (ReflectliteType.typeOf #[vEnd]).run Tryz.prog w = .ok (.iface 137 (.agg #[.pointer (some (rtA 64))])) w := by kernel_rfl
theorem typeOfTwo (w : World) : (ReflectliteType.typeOf #[vTwo]).run Tryz.prog w = .ok (.iface 137 (.agg #[.pointer (some (rtA 65))])) w := by kernel_rfl
theorem compEnd (w : World) : ((ReflectliteType.method fun t => do Rtype.noPackHeld "Comparable" t; (fun a => Value.bool a.comparable) <$> typeInfo t) #[.agg #[.pointer (some (rtA 64))]]).run Tryz.prog w = .ok (.bool true) w := by kernel_rfl
theorem compTwo (w : World) : ((ReflectliteType.method fun t => do Rtype.noPackHeld "Comparable" t; (fun a => Value.bool a.comparable) <$> typeInfo t) #[.agg #[.pointer (some (rtA 65))]]).run Tryz.prog w = .ok (.bool true) w := by kernel_rfl
theorem methodComparable (n : Nat) (h : Value) (w : World) : (Go.method (n + 1) 137 (.agg #[h]) "Comparable").run Tryz.prog w = .ok (199, .agg #[h]) w := by kernel_rfl
set_option maxRecDepth 100000 in
set_option maxHeartbeats 4000000 in
theorem leaf_no (t : TypeId) (v x : Value) (w : World) (he : (binOp .eql 58 (.iface t v) x).run Tryz.prog w = .ok (.bool false) w)
  (h1 : ∀ xT, (Instr.typeAssert (.iface t v) xT 139 true).run Tryz.prog w = .ok (.tuple #[.nilIface, .bool false]) w)
  (h2 : ∀ xT, (Instr.typeAssert (.iface t v) xT 142 true).run Tryz.prog w = .ok (.tuple #[.nilIface, .bool false]) w)
  (h3 : ∀ xT, (Instr.typeAssert (.iface t v) xT 144 true).run Tryz.prog w = .ok (.tuple #[.nilIface, .bool false]) w) :
  Calls Tryz.prog 47 #[.iface t v, x, .bool true] w fun e w' => e = .returned (.bool false) ∧ w' = w := by
 go_enter Tryz.func47, Tryz.ntmps47
 go_wp2_with fail
 refine wp_loop_rounds 1 ?_
 rw [rounds_succ]
 go_wp2_with fail
 go_ret
 exact ⟨rfl, rfl⟩
set_option maxRecDepth 100000 in
set_option maxHeartbeats 4000000 in
theorem leaf_yes (t : TypeId) (v x : Value) (w : World) (he : (binOp .eql 58 (.iface t v) x).run Tryz.prog w = .ok (.bool true) w) :
  Calls Tryz.prog 47 #[.iface t v, x, .bool true] w fun e w' => e = .returned (.bool true) ∧ w' = w := by
 go_enter Tryz.func47, Tryz.ntmps47
 go_wp2_with fail
 refine wp_loop_rounds 1 ?_
 rw [rounds_succ]
 go_wp2_with fail
 go_ret
 exact ⟨rfl, rfl⟩
set_option maxRecDepth 100000 in
set_option maxHeartbeats 4000000 in
theorem is_join (q r c : Nat) (p : Value) (t2 : TypeId) (v2 x : Value) (b : Bool) (w : World) (he : (binOp .eql 58 (.iface 171 (.pointer (some ⟨q, 0, none⟩))) x).run Tryz.prog w = .ok (.bool false) w)
  (hq : w.cell? ⟨q, 0, none⟩ = some (.slice (some ⟨r, 0, none⟩) 2 c)) (h0 : w.cell? ⟨r, 0, none⟩ = some (.iface 174 p)) (h1 : w.cell? ⟨r, 1, none⟩ = some (.iface t2 v2))
  (H1 : Calls Tryz.prog 47 #[.iface 174 p, x, .bool true] w fun e w' => e = .returned (.bool false) ∧ w' = w)
  (H2 : Calls Tryz.prog 47 #[.iface t2 v2, x, .bool true] w fun e w' => e = .returned (.bool b) ∧ w' = w) :
  Calls Tryz.prog 47 #[.iface 171 (.pointer (some ⟨q, 0, none⟩)), x, .bool true] w fun e w' => e = .returned (.bool b) ∧ w' = w := by
 have mU := methodUnwrap
 have na := jIs
 have nu := noUnwrap
 have nh := hasUnwraps
 have HH1 := Tre.hid H1
 have HH2 := Tre.hid H2
 clear H1 H2
 go_enter Tryz.func47, Tryz.ntmps47
 go_wp2_with fail
 refine wp_loop_rounds 1 ?_
 rw [rounds_succ]
 go_wp2_with fail
 refine (unwrap q _ _ hq).mono ?_
 rintro e w' ⟨rfl, rfl⟩
 go_wp2_with fail
 refine wp_loop_rounds 3 ?_
 rw [rounds_succ]
 go_wp2_with fail
 refine HH1.out.mono ?_
 rintro e w' ⟨rfl, rfl⟩
 go_wp2_with fail
 rw [rounds_succ]
 go_wp2_with fail
 refine HH2.out.mono ?_
 rintro e w' ⟨rfl, rfl⟩
 cases b with
 | true =>
  go_wp2_with fail
  go_ret
  exact ⟨rfl, rfl⟩
 | false =>
  go_wp2_with fail
  rw [rounds_succ]
  go_wp2_with fail
  go_ret
  exact ⟨rfl, rfl⟩
set_option maxRecDepth 100000 in
set_option maxHeartbeats 4000000 in
theorem Is_of (t : TypeId) (v : Value) (b : Bool) (w : World) (H : Calls Tryz.prog 47 #[.iface t v, vEnd, .bool true] w fun e w' => e = .returned (.bool b) ∧ w' = w) :
  Calls Tryz.prog 22 #[.iface t v, vEnd] w fun e w' => e = .returned (.bool b) ∧ w' = w := by
 have h10 := @run_callFunc_extern Tryz.prog 46 _ ReflectliteType.typeOf Tryz.func46 (by kernel_rfl) (by kernel_rfl) (by kernel_rfl) (by kernel_rfl)
 have h11 := @run_callFunc_extern Tryz.prog 199 _ (ReflectliteType.method fun t => do Rtype.noPackHeld "Comparable" t; pure (.bool (← typeInfo t).comparable)) Tryz.func199 (by kernel_rfl) (by kernel_rfl) (by kernel_rfl) (by kernel_rfl)
 have hM := methodComparable
 have hT := typeOfEnd
 have hC := compEnd
 have hn : (binOp .eql 58 (.iface t v) .nilIface).run Tryz.prog w = .ok (.bool false) w := by
  have h : ∀ d : Nat, (Op.equalIn (d + 1) 58 (.iface t v) .nilIface).run Tryz.prog w = .ok false w := fun d => by
   simp [Op.equalIn, run_underlying Tryz.underlying58]
  simp only [binOp]
  simp [Op.equal, Op.maxDepth, h 9999]
 have hm : (binOp .eql 58 vEnd .nilIface).run Tryz.prog w = .ok (.bool false) w := by kernel_rfl
 have HH := Tre.hid H
 clear H
 go_enter Tryz.func22, Tryz.ntmps22
 go_wp2_with fail
 refine HH.out.mono ?_
 rintro e w' ⟨rfl, rfl⟩
 go_wp2_with fail
 go_ret
 exact ⟨rfl, rfl⟩
set_option maxRecDepth 100000 in
set_option maxHeartbeats 4000000 in
theorem Is_of2 (t : TypeId) (v : Value) (b : Bool) (w : World) (H : Calls Tryz.prog 47 #[.iface t v, vTwo, .bool true] w fun e w' => e = .returned (.bool b) ∧ w' = w) :
  Calls Tryz.prog 22 #[.iface t v, vTwo] w fun e w' => e = .returned (.bool b) ∧ w' = w := by
 have h10 := @run_callFunc_extern Tryz.prog 46 _ ReflectliteType.typeOf Tryz.func46 (by kernel_rfl) (by kernel_rfl) (by kernel_rfl) (by kernel_rfl)
 have h11 := @run_callFunc_extern Tryz.prog 199 _ (ReflectliteType.method fun t => do Rtype.noPackHeld "Comparable" t; pure (.bool (← typeInfo t).comparable)) Tryz.func199 (by kernel_rfl) (by kernel_rfl) (by kernel_rfl) (by kernel_rfl)
 have hM := methodComparable
 have hT := typeOfTwo
 have hC := compTwo
 have hn : (binOp .eql 58 (.iface t v) .nilIface).run Tryz.prog w = .ok (.bool false) w := by
  have h : ∀ d : Nat, (Op.equalIn (d + 1) 58 (.iface t v) .nilIface).run Tryz.prog w = .ok false w := fun d => by
   simp [Op.equalIn, run_underlying Tryz.underlying58]
  simp only [binOp]
  simp [Op.equal, Op.maxDepth, h 9999]
 have hm : (binOp .eql 58 vTwo .nilIface).run Tryz.prog w = .ok (.bool false) w := by kernel_rfl
 have HH := Tre.hid H
 clear H
 go_enter Tryz.func22, Tryz.ntmps22
 go_wp2_with fail
 refine HH.out.mono ?_
 rintro e w' ⟨rfl, rfl⟩
 go_wp2_with fail
 go_ret
 exact ⟨rfl, rfl⟩
theorem is_two_end (q r c : Nat) (p : Value) (w : World) (hq : w.cell? ⟨q, 0, none⟩ = some (.slice (some ⟨r, 0, none⟩) 2 c)) (h0 : w.cell? ⟨r, 0, none⟩ = some (.iface 174 p)) (h1 : w.cell? ⟨r, 1, none⟩ = some vTwo) :
  Calls Tryz.prog 22 #[.iface 171 (.pointer (some ⟨q, 0, none⟩)), vEnd] w fun e w' => e = .returned (.bool false) ∧ w' = w :=
 Is_of _ _ _ w (is_join q r c p _ _ _ false w (eqJE _ w) hq h0 h1 (leaf_no _ _ _ w (eqSE _ w) (fun xT => sIs _ xT w) (fun xT => sUn _ xT w) (fun xT => sUs _ xT w)) (leaf_no _ _ _ w (eqTE w) (fun xT => tIs _ xT w) (fun xT => tUn _ xT w) (fun xT => tUs _ xT w)))
theorem is_two_two (q r c : Nat) (p : Value) (w : World) (hq : w.cell? ⟨q, 0, none⟩ = some (.slice (some ⟨r, 0, none⟩) 2 c)) (h0 : w.cell? ⟨r, 0, none⟩ = some (.iface 174 p)) (h1 : w.cell? ⟨r, 1, none⟩ = some vTwo) :
  Calls Tryz.prog 22 #[.iface 171 (.pointer (some ⟨q, 0, none⟩)), vTwo] w fun e w' => e = .returned (.bool true) ∧ w' = w :=
 Is_of2 _ _ _ w (is_join q r c p _ _ _ true w (eqJT _ w) hq h0 h1 (leaf_no _ _ _ w (eqST _ w) (fun xT => sIs _ xT w) (fun xT => sUn _ xT w) (fun xT => sUs _ xT w)) (leaf_yes _ _ _ w (eqTT w)))
theorem is_end_end (q r c : Nat) (p : Value) (w : World) (hq : w.cell? ⟨q, 0, none⟩ = some (.slice (some ⟨r, 0, none⟩) 2 c)) (h0 : w.cell? ⟨r, 0, none⟩ = some (.iface 174 p)) (h1 : w.cell? ⟨r, 1, none⟩ = some vEnd) :
  Calls Tryz.prog 22 #[.iface 171 (.pointer (some ⟨q, 0, none⟩)), vEnd] w fun e w' => e = .returned (.bool true) ∧ w' = w :=
 Is_of _ _ _ w (is_join q r c p _ _ _ true w (eqJE _ w) hq h0 h1 (leaf_no _ _ _ w (eqSE _ w) (fun xT => sIs _ xT w) (fun xT => sUn _ xT w) (fun xT => sUs _ xT w)) (leaf_yes _ _ _ w (eqEE w)))
end Go.Proofs.YtljmcmdabdlldaaGreatDoor.errs
namespace Go.Tre
theorem Ty.count_pos (t : Ty) : 0 < t.count := by cases t; unfold Ty.count; omega
theorem idxs_bound : ∀ (l : List Ty) (b j : Nat), j ∈ idxs l b → b ≤ j ∧ j < b + counts l
 | [], b, j, h => by unfold idxs at h; simp at h
 | t :: r, b, j, h => by
  unfold idxs at h
  have := t.count_pos
  rcases List.mem_cons.1 h with rfl | h
  ·unfold counts; omega
  ·have := idxs_bound r _ _ h
   unfold counts; omega
mutual
theorem flat_up : ∀ (t : Ty) (b i : Nat) (e : Ent), (flat t b)[i]? = some e → ∀ j ∈ e.args, b + i < j ∧ j < b + t.count
 | .mk k s args labels o, b, i, e, h => by
  unfold flat at h
  unfold Ty.count
  cases i with
  | zero =>
   simp at h
   subst h
   intro j hj
   have := idxs_bound args _ _ hj
   omega
  | succ i =>
   simp at h
   intro j hj
   have := flats_up args (b + 1) i e h j hj
   omega
theorem flats_up : ∀ (l : List Ty) (b i : Nat) (e : Ent), (flats l b)[i]? = some e → ∀ j ∈ e.args, b + i < j ∧ j < b + counts l
 | [], b, i, e, h => by unfold flats at h; simp at h
 | t :: r, b, i, e, h => by
  unfold flats at h
  unfold counts
  intro j hj
  by_cases hi : i < (flat t b).length
  ·rw [List.getElem?_append_left hi] at h
   have := flat_up t b i e h j hj
   omega
  ·rw [List.getElem?_append_right (by omega), flat_len] at h
   have := flats_up r (b + t.count) _ e h j hj
   rw [flat_len] at hi
   omega
end
def Ent.own (e : Ent) : Bool := ownT e.kind e.s e.args.length e.labels e.opn
mutual
theorem flat_own : ∀ (t : Ty) (b : Nat), 0 ≤ walkT t → ∀ e ∈ flat t b, e.own = true
 | .mk k s args labels o, b, h, e, he => by
  unfold walkT at h
  split at h
  ·rename_i ho
   split at h
   ·omega
   ·unfold flat at he
    rcases List.mem_cons.1 he with rfl | he
    ·unfold Ent.own; rw [idxs_len]; exact ho
    ·exact flats_own args (b + 1) 0 (by omega) e he
  ·omega
theorem flats_own : ∀ (l : List Ty) (b : Nat) (d : Int), 0 ≤ walkTs l d → ∀ e ∈ flats l b, e.own = true
 | [], b, d, h, e, he => by unfold flats at he; simp at he
 | t :: r, b, d, h, e, he => by
  unfold walkTs at h
  split at h
  ·omega
  ·unfold flats at he
   rcases List.mem_append.1 he with he | he
   ·exact flat_own t b (by omega) e he
   ·exact flats_own r _ _ h e he
end
mutual
theorem flat_small : ∀ (t : Ty) (b : Nat), ∀ e ∈ flat t b, 1 + e.s.length + (e.labels.map fun x => x.length + 1).sum + e.args.length ≤ t.weight
 | .mk k s args labels o, b, e, he => by
  unfold flat at he
  unfold Ty.weight
  have := weights_len args
  rcases List.mem_cons.1 he with rfl | he
  ·simp only [idxs_len]; omega
  ·have := flats_small args (b + 1) e he
   omega
theorem flats_small : ∀ (l : List Ty) (b : Nat), ∀ e ∈ flats l b, 1 + e.s.length + (e.labels.map fun x => x.length + 1).sum + e.args.length ≤ weights l
 | [], b, e, he => by unfold flats at he; simp at he
 | t :: r, b, e, he => by
  unfold flats at he
  unfold weights
  rcases List.mem_append.1 he with he | he
  ·have := flat_small t b e he; omega
  ·have := flats_small r _ e he; omega
end
mutual
theorem flat_weight : ∀ (t : Ty) (b : Nat), ((flat t b).map fun e => 1 + e.s.length + (e.labels.map fun x => x.length + 1).sum + e.args.length).sum + 1 ≤ 2 * t.weight
 | .mk k s args labels o, b => by
  have h := flats_weight args (b + 1)
  have hl := weights_len args
  unfold flat Ty.weight
  simp only [List.map_cons, List.sum_cons, idxs_len]
  omega
theorem flats_weight : ∀ (l : List Ty) (b : Nat), ((flats l b).map fun e => 1 + e.s.length + (e.labels.map fun x => x.length + 1).sum + e.args.length).sum + l.length ≤ 2 * weights l
 | [], b => by unfold flats weights; simp
 | t :: r, b => by
  have h1 := flat_weight t b
  have h2 := flats_weight r (b + t.count)
  unfold flats weights
  simp only [List.map_append, List.sum_append, List.length_cons]
  omega
end
theorem flat_smallT {t : Ty} (h : t.weight ≤ 4194304) : SmallT (flat t 0) := by
 have hl : ∀ l : List (List UInt8), l.length ≤ (l.map fun x => x.length + 1).sum := fun l => by
  induction l with
  | nil => simp
  | cons x l ih => simp only [List.map_cons, List.sum_cons, List.length_cons]; omega
 refine ⟨fun i e he => ?_, fun i e he => ?_, fun i e he => ?_⟩ <;>
 ·have := flat_small t 0 e (List.mem_of_getElem? he)
  have := hl e.labels
  omega
def Rises (T : List Ent) : Prop := ∀ (i : Nat) (e : Ent), T[i]? = some e → ∀ j ∈ e.args, i < j ∧ j < T.length
theorem flat_rises (t : Ty) : Rises (flat t 0) := fun i e he j hj => by
 have := flat_up t 0 i e he j hj
 rw [flat_len]; omega
def asB (T : List Ent) (i : Nat) : Bool := match T[i]? with | some e => decide (e.kind = 4) | none => false
def BdOk (T : List Ent) (bd : ByteArray → Option Nat) : Prop := ∀ s x, bd s = some x → ∃ e, T[x]? = some e ∧ e.kind = 4 ∧ s = ⟨e.s.toArray⟩
theorem stepB_ok {T : List Ent} {i : Nat} {e : Ent} {bd bd' : Bd} (he : T[i]? = some e) (h : stepB e i bd = some bd') (hb : BdOk T bd.1) : BdOk T bd'.1 ∧ (∀ s x, bd.1 s = some x → bd'.1 s = some x) ∧ (e.kind = 4 → bd'.1 ⟨e.s.toArray⟩ = some i) ∧ bd'.2 = bd.2 + (if e.kind = 4 then 1 else 0) := by
 unfold stepB at h
 split at h
 ·rename_i h4
  split at h
  ·cases h
  ·rename_i hn
   cases h
   refine ⟨fun s x hs => ?_, fun s x hs => ?_, fun _ => by simp [upd], by simp [h4]⟩
   ·by_cases e1 : s = ⟨e.s.toArray⟩
    ·subst e1; simp [upd] at hs; subst hs; exact ⟨e, he, h4, rfl⟩
    ·simp [upd, e1] at hs; exact hb s x hs
   ·have e1 : s ≠ ⟨e.s.toArray⟩ := fun e1 => by subst e1; rw [hs] at hn; simp at hn
    simp [upd, e1, hs]
 ·rename_i h4
  cases h
  exact ⟨hb, fun _ _ h => h, fun h => absurd h h4, by simp [h4]⟩
theorem bind1_ok {T : List Ent} : ∀ (K i : Nat) (bd bd' : Bd), bind1 T K i bd = some bd' → BdOk T bd.1 → BdOk T bd'.1 ∧ ∀ s x, bd.1 s = some x → bd'.1 s = some x := by
 intro K
 induction K with
 | zero => intro i bd bd' h; rw [bind1] at h; cases h
 | succ K ih =>
  intro i bd bd' h hb
  rw [bind1] at h
  obtain ⟨e, he, h⟩ := Option.bind_eq_some_iff.1 h
  obtain ⟨bd1, hst, hfo⟩ := Option.bind_eq_some_iff.1 h
  have h1 := stepB_ok he hst hb
  have key : ∀ (l : List Nat) (b1 b2 : Bd), l.foldlM (fun bd j => bind1 T K j bd) b1 = some b2 → BdOk T b1.1 → BdOk T b2.1 ∧ ∀ s x, b1.1 s = some x → b2.1 s = some x := by
   intro l
   induction l with
   | nil => intro b1 b2 h hb; rw [List.foldlM_nil] at h; cases h; exact ⟨hb, fun _ _ h => h⟩
   | cons j l ihl =>
    intro b1 b2 h hb
    rw [List.foldlM_cons] at h
    obtain ⟨b3, h3, h4⟩ := Option.bind_eq_some_iff.1 h
    have k1 := ih j b1 b3 h3 hb
    have k2 := ihl b3 b2 h4 k1.1
    exact ⟨k2.1, fun s x hs => k2.2 s x (k1.2 s x hs)⟩
  have h2 := key _ _ _ hfo h1.1
  exact ⟨h2.1, fun s x hs => h2.2 s x (h1.2.1 s x hs)⟩
def At (T l : List Ent) (b : Nat) : Prop := ∀ j, j < l.length → T[b + j]? = l[j]?
theorem At.left {T l m : List Ent} {b : Nat} (h : At T (l ++ m) b) : At T l b := fun j hj => by
 rw [h j (by simp; omega), List.getElem?_append_left hj]
theorem At.right {T l m : List Ent} {b : Nat} (h : At T (l ++ m) b) : At T m (b + l.length) := fun j hj => by
 have := h (l.length + j) (by simp; omega)
 rw [List.getElem?_append_right (by omega), Nat.add_sub_cancel_left] at this
 rw [← this]; congr 1; omega
def asCount (l : List Ent) : Nat := l.countP fun e => decide (e.kind = 4)
mutual
theorem bind_as : ∀ (t : Ty) (b : Nat) {T : List Ent} (K : Nat) (bd bd' : Bd), At T (flat t b) b → bind1 T K b bd = some bd' → BdOk T bd.1 → bd'.2 = bd.2 + asCount (flat t b) ∧ ∀ i e, i < t.count → T[b + i]? = some e → e.kind = 4 → bd'.1 ⟨e.s.toArray⟩ = some (b + i)
 | .mk k s args labels o, b, T, K, bd, bd', hT, h, hb => by
  cases K with
  | zero => rw [bind1] at h; cases h
  | succ K =>
   rw [bind1] at h
   obtain ⟨e, he, h⟩ := Option.bind_eq_some_iff.1 h
   obtain ⟨bd1, hst, hfo⟩ := Option.bind_eq_some_iff.1 h
   have h1 := stepB_ok he hst hb
   unfold flat at hT
   have e0 : e = ⟨k, s, idxs args (b + 1), labels, o⟩ := by
    have := hT 0 (by simp)
    rw [Nat.add_zero, he] at this
    simpa using this
   have hT1 : At T (flats args (b + 1)) (b + 1) := fun j hj => by
    have := hT (j + 1) (by simp; omega)
    simp at this
    rw [← this]; congr 1; omega
   have hfo' : (idxs args (b + 1)).foldlM (fun bd j => bind1 T K j bd) bd1 = some bd' := by
    rw [e0] at hfo; exact hfo
   have h2 := binds_as args (b + 1) K bd1 bd' hT1 hfo' h1.1
   have h3 := binds_keep hfo' h1.1
   refine ⟨?_, fun i e' hi he' h4 => ?_⟩
   ·rw [h2.1, h1.2.2.2, e0]
    unfold flat asCount
    rw [List.countP_cons]
    simp only [decide_eq_true_eq]
    omega
   ·cases i with
    | zero =>
     rw [Nat.add_zero, he] at he'
     cases he'
     rw [Nat.add_zero]
     exact h3 _ _ (h1.2.2.1 h4)
    | succ i =>
     have := h2.2 i e' (by unfold Ty.count at hi; omega) (by rw [← he']; congr 1; omega) h4
     rw [this]; congr 1; omega
theorem binds_as : ∀ (l : List Ty) (b : Nat) {T : List Ent} (K : Nat) (bd bd' : Bd), At T (flats l b) b → (idxs l b).foldlM (fun bd j => bind1 T K j bd) bd = some bd' → BdOk T bd.1 → bd'.2 = bd.2 + asCount (flats l b) ∧ ∀ i e, i < counts l → T[b + i]? = some e → e.kind = 4 → bd'.1 ⟨e.s.toArray⟩ = some (b + i)
 | [], b, T, K, bd, bd', hT, h, hb => by
  unfold idxs at h
  rw [List.foldlM_nil] at h
  cases h
  unfold flats asCount counts
  exact ⟨by simp, fun i e hi => by omega⟩
 | t :: r, b, T, K, bd, bd', hT, h, hb => by
  unfold idxs at h
  rw [List.foldlM_cons] at h
  obtain ⟨bd1, h1, h2⟩ := Option.bind_eq_some_iff.1 h
  unfold flats at hT
  have k1 := bind_as t b K bd bd1 hT.left h1 hb
  have o1 := bind1_ok K b bd bd1 h1 hb
  have hR := hT.right
  rw [flat_len] at hR
  have k2 := binds_as r (b + t.count) K bd1 bd' hR h2 o1.1
  have k3 := binds_keep h2 o1.1
  refine ⟨?_, fun i e hi he h4 => ?_⟩
  ·rw [k2.1, k1.1, show flats (t :: r) b = flat t b ++ flats r (b + t.count) by rw [flats]]
   unfold asCount
   rw [List.countP_append]
   omega
  ·unfold counts at hi
   by_cases hlt : i < t.count
   ·exact k3 _ _ (k1.2 i e hlt he h4)
   ·have := k2.2 (i - t.count) e (by omega) (by rw [← he]; congr 1; omega) h4
    rw [this]; congr 1; omega
theorem binds_keep {l : List Nat} {T : List Ent} {K : Nat} {bd bd' : Bd} (h : l.foldlM (fun bd j => bind1 T K j bd) bd = some bd') (hb : BdOk T bd.1) : ∀ s x, bd.1 s = some x → bd'.1 s = some x := by
 induction l generalizing bd with
 | nil => rw [List.foldlM_nil] at h; cases h; exact fun _ _ h => h
 | cons j l ih =>
  rw [List.foldlM_cons] at h
  obtain ⟨b3, h3, h4⟩ := Option.bind_eq_some_iff.1 h
  have k1 := bind1_ok K j bd b3 h3 hb
  exact fun s x hs => ih h4 k1.1 s x (k1.2 s x hs)
end
theorem flat_at (t : Ty) : At (flat t 0) (flat t 0) 0 := fun j _ => by rw [Nat.zero_add]
/-! following -/
theorem follow_mono {T : List Ent} {bd : ByteArray → Option Nat} : ∀ {m m' i r : Nat}, m ≤ m' → follow1 T bd m i = some r → follow1 T bd m' i = some r := by
 intro m
 induction m with
 | zero => intro m' i r _ h; rw [follow1] at h; cases h
 | succ m ih =>
  intro m' i r hm h
  obtain ⟨m', rfl⟩ : ∃ k, m' = k + 1 := ⟨m' - 1, by omega⟩
  have hle : m ≤ m' := by omega
  rw [follow1] at h ⊢
  obtain ⟨e, he, h⟩ := Option.bind_eq_some_iff.1 h
  rw [he, Option.bind_some]
  by_cases h4 : e.kind = 4
  ·rw [if_pos h4] at h ⊢
   obtain ⟨x, hx, h⟩ := Option.bind_eq_some_iff.1 h
   rw [hx, Option.bind_some]
   exact ih hle h
  ·rw [if_neg h4] at h ⊢
   by_cases h1 : e.kind = 1
   ·rw [if_pos h1] at h ⊢
    cases hb : bd ⟨e.s.toArray⟩ with
    | none => rw [hb] at h; exact h
    | some b => rw [hb] at h; exact ih hle h
   ·rw [if_neg h1] at h ⊢; exact h
theorem follow_is {T : List Ent} {bd : ByteArray → Option Nat} : ∀ {m i r : Nat}, follow1 T bd m i = some r → ∃ e, T[r]? = some e ∧ e.kind ≠ 4 ∧ (e.kind = 1 → bd ⟨e.s.toArray⟩ = none) := by
 intro m
 induction m with
 | zero => intro i r h; rw [follow1] at h; cases h
 | succ m ih =>
  intro i r h
  rw [follow1] at h
  obtain ⟨e, he, h⟩ := Option.bind_eq_some_iff.1 h
  by_cases h4 : e.kind = 4
  ·rw [if_pos h4] at h
   obtain ⟨x, hx, h⟩ := Option.bind_eq_some_iff.1 h
   exact ih h
  ·rw [if_neg h4] at h
   by_cases h1 : e.kind = 1
   ·rw [if_pos h1] at h
    cases hb : bd ⟨e.s.toArray⟩ with
    | none => rw [hb] at h; cases h; exact ⟨e, he, h4, fun _ => hb⟩
    | some b => rw [hb] at h; exact ih h
   ·rw [if_neg h1] at h; cases h; exact ⟨e, he, h4, fun h => absurd h h1⟩
def okCount (T : List Ent) (bd : ByteArray → Option Nat) (m : Nat) : Nat := (List.range T.length).countP fun i => asB T i && (follow1 T bd m i).isSome
theorem okCount_mono {T : List Ent} {bd : ByteArray → Option Nat} {m m' : Nat} (h : m ≤ m') : okCount T bd m ≤ okCount T bd m' := by
 unfold okCount
 refine List.countP_mono_left fun i _ hi => ?_
 rw [Bool.and_eq_true] at hi ⊢
 refine ⟨hi.1, ?_⟩
 obtain ⟨r, hr⟩ := Option.isSome_iff_exists.1 hi.2
 rw [follow_mono h hr]; rfl
theorem countP_lt {α : Type} {p q : α → Bool} : ∀ {l : List α} {x : α}, x ∈ l → p x = false → q x = true → (∀ y ∈ l, p y = true → q y = true) → l.countP p < l.countP q
 | [], x, h, _, _, _ => by simp at h
 | y :: l, x, h, h1, h2, h3 => by
  have hm : l.countP p ≤ l.countP q := List.countP_mono_left fun z hz => h3 z (by simp [hz])
  rw [List.countP_cons, List.countP_cons]
  rcases List.mem_cons.1 h with rfl | h
  ·rw [h1, h2]; simp; omega
  ·have := countP_lt h h1 h2 (fun z hz => h3 z (by simp [hz]))
   have h4 := h3 y (by simp)
   by_cases hp : p y = true
   ·rw [hp, h4 hp]; simp; omega
   ·rw [if_neg hp]
    split <;> omega
theorem okCount_lt {T : List Ent} {bd : ByteArray → Option Nat} {m m' i r : Nat} (hm : m ≤ m') (hi : asB T i = true) (h0 : follow1 T bd m i = none) (h1 : follow1 T bd m' i = some r) : okCount T bd m < okCount T bd m' := by
 have hl : i < T.length := by
  unfold asB at hi
  split at hi
  ·rename_i e he; exact (List.getElem?_eq_some_iff.1 he).1
  ·cases hi
 unfold okCount
 refine countP_lt (x := i) (List.mem_range.2 hl) (by rw [h0]; simp) (by rw [hi, h1]; rfl) fun j _ hj => ?_
 rw [Bool.and_eq_true] at hj ⊢
 refine ⟨hj.1, ?_⟩
 obtain ⟨r, hr⟩ := Option.isSome_iff_exists.1 hj.2
 rw [follow_mono hm hr]; rfl
theorem follow_as {T : List Ent} {bd : ByteArray → Option Nat} (hb : BdOk T bd) : ∀ (m i r : Nat), asB T i = true → follow1 T bd m i = some r → follow1 T bd (2 * okCount T bd m) i = some r := by
 intro m
 induction m using Nat.strongRecOn with
 | ind m ih =>
  intro i r hi h
  cases m with
  | zero => rw [follow1] at h; cases h
  | succ m =>
   cases h0 : follow1 T bd m i with
   | some r' =>
    have e := follow_mono (show m ≤ m + 1 by omega) h0
    rw [h] at e
    cases e
    exact follow_mono (by have := okCount_mono (T := T) (bd := bd) (show m ≤ m + 1 by omega); omega) (ih m (by omega) i r hi h0)
   | none =>
    have hlt := okCount_lt (show m ≤ m + 1 by omega) hi h0 h
    have h' := h
    rw [follow1] at h
    obtain ⟨e, he, h⟩ := Option.bind_eq_some_iff.1 h
    have h4 : e.kind = 4 := by unfold asB at hi; rw [he] at hi; simpa using hi
    rw [if_pos h4] at h
    obtain ⟨x, hx, h⟩ := Option.bind_eq_some_iff.1 h
    have step : ∀ K, follow1 T bd K x = some r → follow1 T bd (K + 1) i = some r := fun K hK => by
     rw [follow1, he, Option.bind_some, if_pos h4, hx, Option.bind_some]; exact hK
    cases m with
    | zero => rw [follow1] at h; cases h
    | succ m =>
     have h2 := h
     rw [follow1] at h
     obtain ⟨e2, he2, h⟩ := Option.bind_eq_some_iff.1 h
     by_cases k4 : e2.kind = 4
     ·have := ih (m + 1) (by omega) x r (by unfold asB; rw [he2]; simp [k4]) h2
      exact follow_mono (by omega) (step _ this)
     ·rw [if_neg k4] at h
      have stop : ∀ K, r = x → (e2.kind ≠ 1 ∨ bd ⟨e2.s.toArray⟩ = none) → follow1 T bd (K + 1) x = some r := fun K hr hk => by
       rw [follow1, he2, Option.bind_some, if_neg k4]
       by_cases k1 : e2.kind = 1
       ·rcases hk with hk | hk
        ·exact absurd k1 hk
        ·rw [if_pos k1, hk, hr]
       ·rw [if_neg k1, hr]
      by_cases k1 : e2.kind = 1
      ·rw [if_pos k1] at h
       cases hbd : bd ⟨e2.s.toArray⟩ with
       | none => rw [hbd] at h; cases h; exact follow_mono (by omega) (step _ (stop 0 rfl (.inr hbd)))
       | some b =>
        rw [hbd] at h
        obtain ⟨eb, heb, hb4, _⟩ := hb _ _ hbd
        have hib := ih m (by omega) b r (by unfold asB; rw [heb]; simp [hb4]) h
        have hx2 : follow1 T bd (2 * okCount T bd m + 1) x = some r := by
         rw [follow1, he2, Option.bind_some, if_neg k4, if_pos k1, hbd]; exact hib
        have := okCount_mono (T := T) (bd := bd) (show m ≤ m + 1 by omega)
        exact follow_mono (by omega) (step _ hx2)
      ·rw [if_neg k1] at h; cases h; exact follow_mono (by omega) (step _ (stop 0 rfl (.inl k1)))
theorem countP_range {T : List Ent} : (List.range T.length).countP (asB T) = asCount T := by
 have e : asCount T = ((List.range T.length).map fun i => T[i]?).countP fun o => match o with | some e => decide (e.kind = 4) | none => false := by
  have : ((List.range T.length).map fun i => T[i]?) = T.map some := by
   apply List.ext_getElem
   ·simp
   ·intro i h1 h2
    have h : i < T.length := by simpa using h2
    simp [List.getElem?_eq_getElem h]
  rw [this, List.countP_map]
  rfl
 rw [e, List.countP_map]
 rfl
theorem okCount_le (T : List Ent) (bd : ByteArray → Option Nat) (m : Nat) : okCount T bd m ≤ asCount T := by
 rw [← countP_range]
 unfold okCount
 exact List.countP_mono_left fun i _ hi => (Bool.and_eq_true _ _ ▸ hi).1
theorem follow_all {T : List Ent} {bd : ByteArray → Option Nat} {n : Nat} (hb : BdOk T bd) (hn : asCount T ≤ n) (hall : ∀ i e, T[i]? = some e → e.kind = 4 → bd ⟨e.s.toArray⟩ = some i) (hf : ∀ s x, bd s = some x → ∃ r, follow1 T bd (2 * n + 2) x = some r) :
  ∀ i, i < T.length → ∃ r, follow1 T bd (2 * n + 2) i = some r := by
 intro i hi
 obtain ⟨e, he⟩ : ∃ e, T[i]? = some e := ⟨_, List.getElem?_eq_getElem hi⟩
 have low : ∀ s x, bd s = some x → ∃ r, follow1 T bd (2 * n) x = some r := fun s x hs => by
  obtain ⟨r, hr⟩ := hf s x hs
  obtain ⟨ex, hex, h4, _⟩ := hb s x hs
  have := follow_as hb _ x r (by unfold asB; rw [hex]; simp [h4]) hr
  have hle := okCount_le T bd (2 * n + 2)
  exact ⟨r, follow_mono (by omega) this⟩
 by_cases h4 : e.kind = 4
 ·exact hf _ i (hall i e he h4)
 ·by_cases h1 : e.kind = 1
  ·cases hbd : bd ⟨e.s.toArray⟩ with
   | none => exact ⟨i, by rw [follow1, he, Option.bind_some, if_neg h4, if_pos h1, hbd]⟩
   | some b =>
    obtain ⟨r, hr⟩ := low _ b hbd
    exact ⟨r, by rw [follow1, he, Option.bind_some, if_neg h4, if_pos h1, hbd]; exact follow_mono (by omega) hr⟩
  ·exact ⟨i, by rw [follow1, he, Option.bind_some, if_neg h4, if_neg h1]⟩
end Go.Tre
