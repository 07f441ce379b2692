/- errors.As at the target '**lex.wrong': the model's entries for internal/reflectlite at the types that it meets (after the kit's worked example Toyas). errors.As, errors.as, errors.Join: the walks at '*lex.wrong' and at two errors that are joined. errors.as at two errors that are joined, the first of which is of the target's type. errors.As at whatever the lexer's errors are; errors.Join of two. (*lexer).next, whatever comes. -/
import Derived.Test.YtnhcgobpkigeoaaGreatDoorRRB00
import Derived.Test.YtnhcgobpkigeoaaGreatDoorRRRows
import Derived.WalkKit
import Derived.LaidEql
import Derived.Stop.Asserts
import Derived.RowKitTokens
import Derived.Test.YtnhcgobpkigeoaaGreatDoorRRB02
import Derived.Test.YtnhcgobpkigeoaaGreatDoorRRB03
import Derived.Test.YtnhcgobpkigeoaaGreatDoorRRB05
import Derived.Test.YtnhcgobpkigeoaaGreatDoorRRB06
import Derived.Test.YtnhcgobpkigeoaaGreatDoorRRB07
import Derived.Test.YtnhcgobpkigeoaaGreatDoorRRB09
set_option linter.unusedVariables false
namespace Go.Tre
/-- the handle of a type -/
noncomputable def rtA (t : TypeId) : Addr := ⟨Go.Proofs.Tryz.prog.globals.size, t, none⟩
/-- errors.errorType holds the handle of the type error -/
def ErrT (w : World) : Prop := w.cell? ⟨0, 0, none⟩ = some (.iface 84 (.agg #[.pointer (some (rtA 38))]))
theorem ErrT.below {w w' : World} (h : ErrT w) (hb : RowKit.Below w.heap.size w w') : ErrT w' := cell_below hb h
end Go.Tre
namespace Go.Proofs.YtnhcgobpkigeoaaGreatDoorRR.errs
open Go.RowKit Go.Extern.Stop Go.Stop Go.Extern Go.Tre
abbrev PE : TypeId := 43
abbrev TE : TypeId := 41
abbrev TR : TypeId := 84
abbrev TV : TypeId := 60

theorem as_nil (t : Value) (w : World) :
    Calls Tryz.prog 11 #[.nilIface, t] w fun e w' => e = .returned (.bool false) ∧ w' = w := by
  go_enter Tryz.func11, Tryz.ntmps11
  go_wp2
  go_ret
  exact ⟨rfl, rfl⟩

theorem valueOfP (t : Addr) (w : World) : (ReflectliteValue.unpack (.iface 43 (.pointer (some t)))).run Tryz.prog w
    = .ok (.agg #[.pointer (some (rtA 43)), .pointer (some ⟨w.heap.size, 0, none⟩), .int .u64 150]) (w.alloc (.cells #[.pointer (some t)] 43)) := by kernel_rfl
theorem typeP (a : Addr) (w : World) : (ReflectliteValue.methodAny (ReflectliteValue.valueError "reflectlite.Value.Type" 0) (fun t _ _ _ => ReflectliteType.toType t) #[.agg #[.pointer (some (rtA 43)), .pointer (some a), .int .u64 150]]).run Tryz.prog w
    = .ok (.iface 84 (.agg #[.pointer (some (rtA 43))])) w := by kernel_rfl
theorem methodKind (n : Nat) (h : Value) (w : World) : (Go.method (n + 1) 84 (.agg #[h]) "Kind").run Tryz.prog w = .ok (110, h) w := by kernel_rfl
theorem kindP (w : World) : ((ReflectliteType.abiMethod fun t => (fun a : Nat => Value.int IntKind.u8 (a : Int)) <$> Rtype.kind t) #[.pointer (some (rtA 43))]).run Tryz.prog w = .ok (.int .u8 22) w := by kernel_rfl
theorem kindE (w : World) : ((ReflectliteType.abiMethod fun t => (fun a : Nat => Value.int IntKind.u8 (a : Int)) <$> Rtype.kind t) #[.pointer (some (rtA 41))]).run Tryz.prog w = .ok (.int .u8 22) w := by kernel_rfl
theorem rlm (z : Sem Value) (f : TypeId → Addr → Nat → Nat → Sem Value) (v : Value) :
    ReflectliteValue.method z f #[v] = (do match ← ReflectliteValue.parts v with | none => z | some (t, a, fl) => f t a fl (fl % 32)) := rfl
theorem partsP (a : Addr) (w : World) : (ReflectliteValue.parts (.agg #[.pointer (some (rtA 43)), .pointer (some a), .int .u64 150])).run Tryz.prog w = .ok (some (43, a, 150)) w := by kernel_rfl
theorem isNilP (a p : Addr) (W : World) (ha : W.cell? a = some (.pointer (some p))) :
    (ReflectliteValue.method (ReflectliteValue.valueError "reflectlite.Value.IsNil" 0) ReflectliteValue.isNil #[.agg #[.pointer (some (rtA 43)), .pointer (some a), .int .u64 150]]).run Tryz.prog W = .ok (.bool false) W := by
  rw [rlm]
  simp only [Sem.run_bind, partsP, Result.andThen]
  simp [ReflectliteValue.isNil, loadVar, isAgg, underlying, Tryz.underlying43, ha, Result.andThen]
theorem methodElem (n : Nat) (h : Value) (w : World) : (Go.method (n + 1) 84 (.agg #[h]) "Elem").run Tryz.prog w = .ok (120, .agg #[h]) w := by kernel_rfl
theorem methodImplements (n : Nat) (h : Value) (w : World) : (Go.method (n + 1) 84 (.agg #[h]) "Implements").run Tryz.prog w = .ok (121, .agg #[h]) w := by kernel_rfl
theorem methodAssignableTo (n : Nat) (h : Value) (w : World) : (Go.method (n + 1) 84 (.agg #[h]) "AssignableTo").run Tryz.prog w = .ok (118, .agg #[h]) w := by kernel_rfl
theorem elemP (w : World) : (ReflectliteType.method ReflectliteType.elem #[.agg #[.pointer (some (rtA 43))]]).run Tryz.prog w = .ok (.iface 84 (.agg #[.pointer (some (rtA 41))])) w := by kernel_rfl
theorem implementsE (w : World) : (ReflectliteType.relation "Implements" ReflectliteType.implements_ #[.agg #[.pointer (some (rtA 41))], .iface 84 (.agg #[.pointer (some (rtA 38))])]).run Tryz.prog w = .ok (.bool true) w := by kernel_rfl
theorem typeOfE (v : Value) (w : World) : (ReflectliteType.typeOf #[.iface 41 v]).run Tryz.prog w = .ok (.iface 84 (.agg #[.pointer (some (rtA 41))])) w := by kernel_rfl
theorem assignableE (w : World) : (ReflectliteType.relation "AssignableTo" ReflectliteType.assignableTo #[.agg #[.pointer (some (rtA 41))], .iface 84 (.agg #[.pointer (some (rtA 41))])]).run Tryz.prog w = .ok (.bool true) w := by kernel_rfl
theorem typeOfJ (v : Value) (w : World) : (ReflectliteType.typeOf #[.iface 113 v]).run Tryz.prog w = .ok (.iface 84 (.agg #[.pointer (some (rtA 113))])) w := by kernel_rfl
theorem assignableJ (w : World) : (ReflectliteType.relation "AssignableTo" ReflectliteType.assignableTo #[.agg #[.pointer (some (rtA 113))], .iface 84 (.agg #[.pointer (some (rtA 41))])]).run Tryz.prog w = .ok (.bool false) w := by kernel_rfl
theorem valueOfE (e : Addr) (w : World) : (ReflectliteValue.unpack (.iface 41 (.pointer (some e)))).run Tryz.prog w
    = .ok (.agg #[.pointer (some (rtA 41)), .pointer (some ⟨w.heap.size, 0, none⟩), .int .u64 150]) (w.alloc (.cells #[.pointer (some e)] 41)) := by kernel_rfl
theorem elemOfP (w : World) : (Rtype.elem? 43).run Tryz.prog w = .ok (some 41) w := by kernel_rfl
theorem mkE (p : Addr) (w : World) : (ReflectliteValue.mk 41 p ReflectliteValue.flagAddr).run Tryz.prog w = .ok (.agg #[.pointer (some (rtA 41)), .pointer (some p), .int .u64 406]) w := by kernel_rfl
theorem elemVP (a p : Addr) (W : World) (ha : W.cell? a = some (.pointer (some p))) :
    (ReflectliteValue.method (ReflectliteValue.valueError "reflectlite.Value.Elem" 0) ReflectliteValue.elem #[.agg #[.pointer (some (rtA 43)), .pointer (some a), .int .u64 150]]).run Tryz.prog W
      = .ok (.agg #[.pointer (some (rtA 41)), .pointer (some p), .int .u64 406]) W := by
  rw [rlm]
  simp only [Sem.run_bind, partsP, Result.andThen]
  simp [ReflectliteValue.elem, loadVar, isAgg, underlying, Tryz.underlying43, ha, Result.andThen, elemOfP, mkE]
theorem rls (v x : Value) : ReflectliteValue.set #[v, x] = (do
    let (some (dst, a, fl), some (src, b, _)) := (← ReflectliteValue.parts v, ← ReflectliteValue.parts x)
      | unsupported (.noEntry "extern/(internal/reflectlite.Value).Set.zeroValue")
    if fl / ReflectliteValue.flagAddr % 2 == 0 then unsupported (.noEntry "extern/(internal/reflectlite.Value).Set.unaddressable")
    let val ← loadVar src b
    if ← Rtype.directlyAssignable dst src then storeVar dst a val
    else if ← Rtype.implements dst src then
      if (← Rtype.kind src) == 20 then
        match val with
        | .nilIface => unsupported (.noEntry "extern/reflectlite: a nil value of one interface type handed on as a value of another")
        | _ => storeVar dst a val
      else storeVar dst a (.iface src val)
    else panicString ("reflectlite.Set: value of type " ++ (← Rtype.spelt src) ++ " is not assignable to type " ++ (← Rtype.spelt dst))
    pure (.tuple #[])) := rfl
theorem partsEa (a : Addr) (w : World) : (ReflectliteValue.parts (.agg #[.pointer (some (rtA 41)), .pointer (some a), .int .u64 406])).run Tryz.prog w = .ok (some (41, a, 406)) w := by kernel_rfl
theorem partsE (a : Addr) (w : World) : (ReflectliteValue.parts (.agg #[.pointer (some (rtA 41)), .pointer (some a), .int .u64 150])).run Tryz.prog w = .ok (some (41, a, 150)) w := by kernel_rfl
theorem directE (w : World) : (Rtype.directlyAssignable 41 41).run Tryz.prog w = .ok true w := by kernel_rfl
theorem setE (ta b e : Addr) (old : Value) (W : World) (hb : W.cell? b = some (.pointer (some e))) (ht : W.cell? ta = some old) (hf : W.frozen? ta = false) :
    (ReflectliteValue.set #[.agg #[.pointer (some (rtA 41)), .pointer (some ta), .int .u64 406], .agg #[.pointer (some (rtA 41)), .pointer (some b), .int .u64 150]]).run Tryz.prog W
      = .ok (.tuple #[]) (W.setCell ta (.pointer (some e))) := by
  rw [rls]
  simp only [Sem.run_bind, partsEa, partsE, Result.andThen]
  simp [ReflectliteValue.flagAddr, loadVar, isAgg, underlying, Tryz.underlying41, hb, Result.andThen, directE, storeVar, Value.cells, storeCells, Addr.add]
  rw [run_store Tryz.prog W ta _ _ (by rfl)]
  simp [ht, hf]
end Go.Proofs.YtnhcgobpkigeoaaGreatDoorRR.errs
namespace Go.Proofs.YtnhcgobpkigeoaaGreatDoorRR.errs
open Go.RowKit Go.Extern.Stop Go.Stop Go.Extern Go.Tre

/-! errors.As -/
set_option maxHeartbeats 4000000 in
/-- errors.as at an error that is of the target's own type -/
theorem as1_hit (e t a : Addr) (old : Value) (w : World) (ht0 : w.cell? t = some old) (hf0 : w.frozen? t = false) (ha : w.cell? a = some (.pointer (some t))) :
    Calls Tryz.prog 24 #[.iface 41 (.pointer (some e)), .iface 43 (.pointer (some t)), .agg #[.pointer (some (rtA 43)), .pointer (some a), .int .u64 150], .iface 84 (.agg #[.pointer (some (rtA 41))])] w
      fun ev w' => ev = .returned (.bool true) ∧ w' = ((w.alloc (.cells #[.pointer (some (rtA 43)), .pointer (some a), .int .u64 150] 60)).alloc (.cells #[.pointer (some e)] 41)).setCell t (.pointer (some e)) := by
  have h6 := @run_callFunc_extern Tryz.prog 21 _ (fun args => ReflectliteValue.unpack (args.getD 0 (.tuple #[]))) Tryz.func21 (by kernel_rfl) (by kernel_rfl) (by kernel_rfl) (by kernel_rfl)
  have h10 := @run_callFunc_extern Tryz.prog 38 _ ReflectliteType.typeOf Tryz.func38 (by kernel_rfl) (by kernel_rfl) (by kernel_rfl) (by kernel_rfl)
  have h35 := @run_callFunc_extern Tryz.prog 118 _ (ReflectliteType.relation "AssignableTo" ReflectliteType.assignableTo) Tryz.func118 (by kernel_rfl) (by kernel_rfl) (by kernel_rfl) (by kernel_rfl)
  have h11 := @run_callFunc_extern Tryz.prog 39 _ (ReflectliteValue.method (ReflectliteValue.valueError "reflectlite.Value.Elem" 0) ReflectliteValue.elem) Tryz.func39 (by kernel_rfl) (by kernel_rfl) (by kernel_rfl) (by kernel_rfl)
  have h12 := @run_callFunc_extern Tryz.prog 40 _ ReflectliteValue.set Tryz.func40 (by kernel_rfl) (by kernel_rfl) (by kernel_rfl) (by kernel_rfl)
  have tO := typeOfE
  have mA := methodAssignableTo
  have a25 := assignableE
  have v25 := valueOfE
  have htl : t.block < w.heap.size := World.block_lt_of_cell? w t ht0
  have hal : a.block < w.heap.size := World.block_lt_of_cell? w a ha
  have el := elemVP a t (w.alloc (.cells #[.pointer (some (rtA 43)), .pointer (some a), .int .u64 150] 60)) (by rw [World.cell?_alloc_lt _ _ a hal]; exact ha)
  have st := setE t ⟨w.heap.size + 1, 0, none⟩ e old ((w.alloc (.cells #[.pointer (some (rtA 43)), .pointer (some a), .int .u64 150] 60)).alloc (.cells #[.pointer (some e)] 41))
    (by rw [World.cell?_alloc_at _ _ _ _ (by simp)]; rfl)
    (by rw [World.cell?_alloc_lt _ _ t (by simp; omega), World.cell?_alloc_lt _ _ t htl]; exact ht0)
    (by rw [World.frozen?_alloc_old _ _ t (by simp; omega), World.frozen?_alloc_old _ _ t (Nat.ne_of_lt htl)]; exact hf0)
  go_enter Tryz.func24, Tryz.ntmps24
  go_wp2
  refine wp_loop_rounds 1 ?_
  rw [rounds_succ]
  go_wp2
  go_ret
  exact ⟨rfl, rfl⟩
end Go.Proofs.YtnhcgobpkigeoaaGreatDoorRR.errs
namespace Go.Proofs.YtnhcgobpkigeoaaGreatDoorRR.errs
open Go.RowKit Go.Extern.Stop Go.Stop Go.Extern Go.Tre
theorem methodUnwrap (n : Nat) (h : Value) (w : World) : (Go.method (n + 1) 113 h "Unwrap").run Tryz.prog w = .ok (129, h) w := by kernel_rfl
theorem noAs (v : Value) (xT : TypeId) (w : World) : (Instr.typeAssert (.iface 113 v) xT 89 true).run Tryz.prog w = .ok (.tuple #[.nilIface, .bool false]) w := run_typeAssert_lacksB Tryz.underlying89 (by kernel_rfl) (by kernel_rfl) v xT w
theorem noUnwrap (v : Value) (xT : TypeId) (w : World) : (Instr.typeAssert (.iface 113 v) xT 92 true).run Tryz.prog w = .ok (.tuple #[.nilIface, .bool false]) w := run_typeAssert_lacksB Tryz.underlying92 (by kernel_rfl) (by kernel_rfl) v xT w
theorem hasUnwraps (v : Value) (xT : TypeId) (w : World) : (Instr.typeAssert (.iface 113 v) xT 93 true).run Tryz.prog w = .ok (.tuple #[.iface 113 v, .bool true]) w := run_typeAssert_hasB Tryz.underlying93 (by kernel_rfl) v xT w
theorem unwrap (q : Nat) (v : Value) (w : World) (hq : w.cell? ⟨q, 0, none⟩ = some v) :
    Calls Tryz.prog 129 #[.pointer (some ⟨q, 0, none⟩)] w fun e w' => e = .returned v ∧ w = w' := by
  go_enter Tryz.func129, Tryz.ntmps129
  go_wp2
  go_ret
  exact ⟨rfl, rfl⟩
set_option maxRecDepth 100000 in
set_option maxHeartbeats 4000000 in
theorem as1_join (p q r c : Nat) (x : Value) (t a : Addr) (old : Value) (w : World) (ht0 : w.cell? t = some old) (hf0 : w.frozen? t = false) (ha : w.cell? a = some (.pointer (some t)))
    (hq : w.cell? ⟨q, 0, none⟩ = some (.slice (some ⟨r, 0, none⟩) 2 c)) (hr : w.cell? ⟨r, 0, none⟩ = some (.iface 41 (.pointer (some ⟨p, 0, none⟩)))) :
    Calls Tryz.prog 24 #[.iface 113 (.pointer (some ⟨q, 0, none⟩)), .iface 43 (.pointer (some t)), .agg #[.pointer (some (rtA 43)), .pointer (some a), .int .u64 150], .iface 84 (.agg #[.pointer (some (rtA 41))])] w
      fun ev w' => ev = .returned (.bool true) ∧ w' = (((w.alloc (.cells #[.pointer (some (rtA 43)), .pointer (some a), .int .u64 150] 60)).alloc (.cells #[.pointer (some (rtA 43)), .pointer (some a), .int .u64 150] 60)).alloc (.cells #[.pointer (some ⟨p, 0, none⟩)] 41)).setCell t (.pointer (some ⟨p, 0, none⟩)) := by
  have h10 := @run_callFunc_extern Tryz.prog 38 _ ReflectliteType.typeOf Tryz.func38 (by kernel_rfl) (by kernel_rfl) (by kernel_rfl) (by kernel_rfl)
  have h35 := @run_callFunc_extern Tryz.prog 118 _ (ReflectliteType.relation "AssignableTo" ReflectliteType.assignableTo) Tryz.func118 (by kernel_rfl) (by kernel_rfl) (by kernel_rfl) (by kernel_rfl)
  have tO := typeOfJ
  have mA := methodAssignableTo
  have mU := methodUnwrap
  have na := noAs
  have nu := noUnwrap
  have nh := hasUnwraps
  have aJ := assignableJ
  go_enter Tryz.func24, Tryz.ntmps24
  go_wp2
  refine wp_loop_rounds 1 ?_
  rw [rounds_succ]
  go_wp2_with fail
  refine (unwrap q _ _ (by rw [World.cell?_alloc_lt _ _ _ (World.block_lt_of_cell? w _ hq)]; exact hq)).mono ?_
  rintro e w' ⟨rfl, rfl⟩
  have hr' : (w.alloc (.cells #[.pointer (some (rtA 43)), .pointer (some a), .int .u64 150] 60)).cell? ⟨r, 0, none⟩ = some (.iface 41 (.pointer (some ⟨p, 0, none⟩))) := by rw [World.cell?_alloc_lt _ _ _ (World.block_lt_of_cell? w _ hr)]; exact hr
  have ht' : (w.alloc (.cells #[.pointer (some (rtA 43)), .pointer (some a), .int .u64 150] 60)).cell? t = some old := by rw [World.cell?_alloc_lt _ _ _ (World.block_lt_of_cell? w _ ht0)]; exact ht0
  have hf' : (w.alloc (.cells #[.pointer (some (rtA 43)), .pointer (some a), .int .u64 150] 60)).frozen? t = false := by rw [World.frozen?_alloc_old _ _ t (Nat.ne_of_lt (World.block_lt_of_cell? w _ ht0))]; exact hf0
  have ha' : (w.alloc (.cells #[.pointer (some (rtA 43)), .pointer (some a), .int .u64 150] 60)).cell? a = some (.pointer (some t)) := by rw [World.cell?_alloc_lt _ _ _ (World.block_lt_of_cell? w _ ha)]; exact ha
  go_wp2_with fail
  refine wp_loop_rounds 1 ?_
  rw [rounds_succ]
  go_wp2_with fail
  refine (as1_hit ⟨p, 0, none⟩ t a old _ ht' hf' ha').mono ?_
  rintro e w' ⟨rfl, rfl⟩
  go_wp2_with fail
  go_ret
  exact ⟨rfl, rfl⟩
end Go.Proofs.YtnhcgobpkigeoaaGreatDoorRR.errs
namespace Go.Proofs.YtnhcgobpkigeoaaGreatDoorRR.errs
open Go.RowKit Go.Extern.Stop Go.Stop Go.Extern Go.Tre
set_option maxRecDepth 100000 in
set_option maxHeartbeats 4000000 in
/-- errors.As, its error's errors.as by a contract -/
theorem as_of (x : Value) (t : Addr) (old : Value) (w : World) (hx : x ≠ .nilIface) (hx' : ∃ tx vx, x = .iface tx vx) (hg : ErrT w) (ht0 : w.cell? t = some old) (hf0 : w.frozen? t = false) (p : Nat)
    (H : ∀ (a : Addr) (w1 : World), w1.cell? t = some old → w1.frozen? t = false → w1.cell? a = some (.pointer (some t)) → Below w.heap.size w w1 →
      Calls Tryz.prog 24 #[x, .iface 43 (.pointer (some t)), .agg #[.pointer (some (rtA 43)), .pointer (some a), .int .u64 150], .iface 84 (.agg #[.pointer (some (rtA 41))])] w1
        fun ev w' => ev = .returned (.bool true) ∧ ∃ w2, Below w1.heap.size w1 w2 ∧ w' = w2.setCell t (.pointer (some ⟨p, 0, none⟩))) :
    Calls Tryz.prog 11 #[x, .iface 43 (.pointer (some t))] w fun ev w' => ev = .returned (.bool true) ∧ ∃ w2, Below w.heap.size w w2 ∧ w' = w2.setCell t (.pointer (some ⟨p, 0, none⟩)) := by
  have h6 := @run_callFunc_extern Tryz.prog 21 _ (fun args => ReflectliteValue.unpack (args.getD 0 (.tuple #[]))) Tryz.func21 (by kernel_rfl) (by kernel_rfl) (by kernel_rfl) (by kernel_rfl)
  have h7 := @run_callFunc_extern Tryz.prog 22 _ (ReflectliteValue.methodAny (ReflectliteValue.valueError "reflectlite.Value.Type" 0) (fun t _ _ _ => ReflectliteType.toType t)) Tryz.func22 (by kernel_rfl) (by kernel_rfl) (by kernel_rfl) (by kernel_rfl)
  have h8 := @run_callFunc_extern Tryz.prog 23 _ (ReflectliteValue.method (ReflectliteValue.valueError "reflectlite.Value.IsNil" 0) ReflectliteValue.isNil) Tryz.func23 (by kernel_rfl) (by kernel_rfl) (by kernel_rfl) (by kernel_rfl)
  have h27 := @run_callFunc_extern Tryz.prog 110 _ (ReflectliteType.abiMethod fun t => do pure (.int .u8 (← Rtype.kind t))) Tryz.func110 (by kernel_rfl) (by kernel_rfl) (by kernel_rfl) (by kernel_rfl)
  have h37 := @run_callFunc_extern Tryz.prog 120 _ (ReflectliteType.method ReflectliteType.elem) Tryz.func120 (by kernel_rfl) (by kernel_rfl) (by kernel_rfl) (by kernel_rfl)
  have h38 := @run_callFunc_extern Tryz.prog 121 _ (ReflectliteType.relation "Implements" ReflectliteType.implements_) Tryz.func121 (by kernel_rfl) (by kernel_rfl) (by kernel_rfl) (by kernel_rfl)
  have f6 := valueOfP
  have f7 := typeP
  have mK := methodKind
  have mE := methodElem
  have mI := methodImplements
  have k27 := kindP
  have k25 := kindE
  have e27 := elemP
  have i25 := implementsE
  have htl : t.block < w.heap.size := World.block_lt_of_cell? w t ht0
  have n8 := isNilP ⟨w.heap.size, 0, none⟩ t ((w.alloc (.cells #[.pointer (some t)] 43)).alloc (.cells #[.pointer (some (rtA 43)), .pointer (some ⟨w.heap.size, 0, none⟩), .int .u64 150] 60)) (by simp)
  have hlt : 0 < w.heap.size := World.block_lt_of_cell? w _ hg
  have hg2 : ((w.alloc (.cells #[.pointer (some t)] 43)).alloc (.cells #[.pointer (some (rtA 43)), .pointer (some ⟨w.heap.size, 0, none⟩), .int .u64 150] 60)).cell? ⟨0, 0, none⟩ = some (.iface 84 (.agg #[.pointer (some (rtA 38))])) := by
    rw [World.cell?_alloc_lt _ _ ⟨0, 0, none⟩ (by simp; try omega), World.cell?_alloc_lt _ _ ⟨0, 0, none⟩ hlt]; exact hg
  have H1 := H ⟨w.heap.size, 0, none⟩ ((w.alloc (.cells #[.pointer (some t)] 43)).alloc (.cells #[.pointer (some (rtA 43)), .pointer (some ⟨w.heap.size, 0, none⟩), .int .u64 150] 60))
    (by rw [World.cell?_alloc_lt _ _ t (by simp; omega), World.cell?_alloc_lt _ _ t htl]; exact ht0)
    (by rw [World.frozen?_alloc_old _ _ t (by simp; omega), World.frozen?_alloc_old _ _ t (Nat.ne_of_lt htl)]; exact hf0)
    (by rw [World.cell?_alloc_lt _ _ ⟨w.heap.size, 0, none⟩ (by simp), World.cell?_alloc_at _ _ _ _ (by simp)]; rfl)
    (((Below.refl _ _).alloc (Nat.le_refl _) _).alloc (by simp) _)
  have HH := Tre.hid H1
  have HHT := Tre.hid hg
  clear H1 H hg
  obtain ⟨tx, vx, rfl⟩ := hx'
  clear hx
  go_enter Tryz.func11, Tryz.ntmps11
  go_wp2_with fail
  refine HH.out.mono ?_
  rintro e w' ⟨rfl, w2, hb, rfl⟩
  have HB := Tre.hid hb
  clear hb
  go_wp2_with fail
  go_ret
  exact ⟨rfl, w2, (((Below.refl _ w).alloc (Nat.le_refl _) _).alloc (by simp) _).trans (HB.out.mono (by simp; omega)), rfl⟩
theorem as_any (v : Value) (bs : List Nat) (at_ no : Nat) (t : Addr) (old : Value) (w : World) (hE : ErrIn w bs v at_ no) (hg : ErrT w) (ht0 : w.cell? t = some old) (hf0 : w.frozen? t = false) :
    Calls Tryz.prog 11 #[v, .iface 43 (.pointer (some t))] w fun ev w' => ev = .returned (.bool true) ∧ ∃ p w2, Below w.heap.size w w2 ∧ w.heap[p]? = some (.cells #[.int .i64 at_, .int .i64 no] 45 (0, 0)) ∧ w' = w2.setCell t (.pointer (some ⟨p, 0, none⟩)) := by
  rcases hE with ⟨p, rfl, rfl, h1⟩ | ⟨p, q, r, tq, x, c, rfl, rfl, h1, h2, ⟨t', cs, fz, h3, h4, h4'⟩, h5⟩
  · refine (as_of _ t old w (by intro h; cases h) ⟨_, _, rfl⟩ hg ht0 hf0 p ?_).mono ?_
    · intro a w1 c1 c2 c3 hb
      refine (as1_hit ⟨p, 0, none⟩ t a old w1 c1 c2 c3).mono ?_
      rintro e w' ⟨rfl, rfl⟩
      exact ⟨rfl, _, ((Below.refl _ w1).alloc (Nat.le_refl _) _).alloc (by simp) _, rfl⟩
    · rintro e w' ⟨rfl, w2, hb, rfl⟩
      exact ⟨rfl, p, w2, hb, h1, rfl⟩
  · refine (as_of _ t old w (by intro h; cases h) ⟨_, _, rfl⟩ hg ht0 hf0 p ?_).mono ?_
    · intro a w1 c1 c2 c3 hb
      refine (as1_join p q r c x t a old w1 c1 c2 c3 ?_ ?_).mono ?_
      · exact cell_below hb (by simp [World.cell?, h2])
      · exact cell_below hb (by simp [World.cell?, h3, h4])
      · rintro e w' ⟨rfl, rfl⟩
        exact ⟨rfl, _, (((Below.refl _ w1).alloc (Nat.le_refl _) _).alloc (by simp) _).alloc (by simp; omega) _, rfl⟩
    · rintro e w' ⟨rfl, w2, hb, rfl⟩
      exact ⟨rfl, p, w2, hb, h1, rfl⟩
end Go.Proofs.YtnhcgobpkigeoaaGreatDoorRR.errs
namespace Go.Tre
/-- what the lexer wants of the library's variables -/
structure LexEnv (w : World) : Prop where
  max : MaxAt w
  sp : SpaceAt w
  rg : Go.Proofs.YtnhcgobpkigeoaaGreatDoorRR.lex.RangeAt w
  et : ErrT w
theorem LexEnv.below {w w' : World} (h : LexEnv w) (hb : RowKit.Below w.heap.size w w') : LexEnv w' := ⟨h.max.below hb, h.sp.below hb, h.rg.below hb, h.et.below hb⟩
end Go.Tre
namespace Go.Proofs.YtnhcgobpkigeoaaGreatDoorRR.lex
open Go.RowKit Go.Tre
theorem next (w0 : World) (rs : List Res) (b : Nat) (s x : ByteArray) (k : Nat) (w : World) (h : Mem w0 w (lexR b s k :: rs)) (hk : k ≤ s.size) (hs : s.size ≤ 4194304) (hx : x.data.toList = s.data.toList.drop k) (h0 : 0 < x.size) (E : LexEnv w0) :
    Calls Tryz.prog 20 #[.pointer (some ⟨b, 0, none⟩)] w (NextPost w0 rs b s k (nextS x.data.toList)) := by
  by_cases h1 : 100 < wordLen x
  · exact next_word_long w0 rs b s x k w h hk hs hx E.max h1
  · by_cases h2 : 0 < wordLen x
    · exact next_word_short w0 rs b s x k w h hk hs hx E.max ⟨h2, by omega⟩
    · have hw : wordLen x = 0 := by omega
      by_cases h39 : x[0] = 39
      · by_cases h3 : wordLen (x.extract 1 x.size) = 0
        · exact next_tick_none w0 rs b s x k w h hk hs hx E.max h0 hw h39 h3
        · by_cases h4 : 100 < wordLen (x.extract 1 x.size)
          · exact next_tick_long w0 rs b s x k w h hk hs hx E.max h0 hw h39 h4
          · exact next_tick_some w0 rs b s x k w h hk hs hx E.max h0 hw h39 (by omega) (by omega)
      · by_cases h34 : x[0] = 34
        · cases hq : quotedS (x.extract 1 x.size).data.toList with
          | none => exact next_quote_none w0 rs b s x k w h hk hs hx E.max h0 hw h34 hq
          | some p => exact next_quote_some w0 rs b s x k w h hk hs hx E.max h0 hw h34 p hq
        · by_cases h5 : (x[0].toNat : Int) < 48
          · exact next_sym_lo w0 rs b s x k w h hk hs hx E.max h0 hw E.sp h39 h34 h5
          · by_cases h6 : 57 < (x[0].toNat : Int)
            · exact next_sym_hi w0 rs b s x k w h hk hs hx E.max h0 hw E.sp h39 h34 h6
            · by_cases h7 : digitsVal (x.data.toList.takeWhile isDig) ≤ 9223372036854775807
              · exact next_num_ok w0 rs b s x k w h hk hs hx E.max h0 hw (by omega) (by omega) h7
              · exact next_num_no w0 rs b s x k w h hk hs hx E.max h0 hw E.rg (by omega) (by omega) h7
end Go.Proofs.YtnhcgobpkigeoaaGreatDoorRR.lex
