/- errors.As at the target '**lex.wrong': the model's entries for internal/reflectlite at the types that it meets (after the kit's worked example Toyas). errors.As, errors.as, errors.Join: the walks at '*lex.wrong' and at two errors that are joined. errors.as at two errors that are joined, the first of which is of the target's type. errors.As at whatever the lexer's errors are; errors.Join of two. (*lexer).next, whatever comes. lex.all: a text's tokens. lex.Lex: a text's tokens, or the error's number. Tokens compared. -/
import Derived.Test.YtejajdebpibocaaGreatDoorB00
import Derived.Test.YtejajdebpibocaaGreatDoorRows
import Derived.WalkKit
import Derived.LaidEql
import Derived.Stop.Asserts
import Derived.RowKitTokens
import Derived.Test.YtejajdebpibocaaGreatDoorB06
import Derived.Test.YtejajdebpibocaaGreatDoorB03
import Derived.Test.YtejajdebpibocaaGreatDoorB08
import Derived.Test.YtejajdebpibocaaGreatDoorB09
import Derived.Test.YtejajdebpibocaaGreatDoorB10
import Derived.Test.YtejajdebpibocaaGreatDoorB12
import Derived.Test.YtejajdebpibocaaGreatDoorB04
import Derived.Deep.LoopGhost
set_option linter.unusedVariables false
namespace Go.Tre
/-- the handle of a type -/
noncomputable def rtA (t : TypeId) : Addr := ⟨Go.Proofs.Tryz.prog.globals.size, t, none⟩
/-- errors.errorType holds the handle of the type error -/
def ErrT (w : World) : Prop := w.cell? ⟨0, 0, none⟩ = some (.iface 100 (.agg #[.pointer (some (rtA 36))]))
theorem ErrT.below {w w' : World} (h : ErrT w) (hb : RowKit.Below w.heap.size w w') : ErrT w' := cell_below hb h
end Go.Tre
namespace Go.Proofs.YtejajdebpibocaaGreatDoor.errs
open Go.RowKit Go.Extern.Stop Go.Stop Go.Extern Go.Tre
abbrev PE : TypeId := 41
abbrev TE : TypeId := 39
abbrev TR : TypeId := 100
abbrev TV : TypeId := 59

theorem as_nil (t : Value) (w : World) :
    Calls Tryz.prog 13 #[.nilIface, t] w fun e w' => e = .returned (.bool false) ∧ w' = w := by
  go_enter Tryz.func13, Tryz.ntmps13
  go_wp2
  go_ret
  exact ⟨rfl, rfl⟩

theorem valueOfP (t : Addr) (w : World) : (ReflectliteValue.unpack (.iface 41 (.pointer (some t)))).run Tryz.prog w
    = .ok (.agg #[.pointer (some (rtA 41)), .pointer (some ⟨w.heap.size, 0, none⟩), .int .u64 150]) (w.alloc (.cells #[.pointer (some t)] 41)) := by kernel_rfl
theorem typeP (a : Addr) (w : World) : (ReflectliteValue.methodAny (ReflectliteValue.valueError "reflectlite.Value.Type" 0) (fun t _ _ _ => ReflectliteType.toType t) #[.agg #[.pointer (some (rtA 41)), .pointer (some a), .int .u64 150]]).run Tryz.prog w
    = .ok (.iface 100 (.agg #[.pointer (some (rtA 41))])) w := by kernel_rfl
theorem methodKind (n : Nat) (h : Value) (w : World) : (Go.method (n + 1) 100 (.agg #[h]) "Kind").run Tryz.prog w = .ok (140, h) w := by kernel_rfl
theorem kindP (w : World) : ((ReflectliteType.abiMethod fun t => (fun a : Nat => Value.int IntKind.u8 (a : Int)) <$> Rtype.kind t) #[.pointer (some (rtA 41))]).run Tryz.prog w = .ok (.int .u8 22) w := by kernel_rfl
theorem kindE (w : World) : ((ReflectliteType.abiMethod fun t => (fun a : Nat => Value.int IntKind.u8 (a : Int)) <$> Rtype.kind t) #[.pointer (some (rtA 39))]).run Tryz.prog w = .ok (.int .u8 22) w := by kernel_rfl
theorem rlm (z : Sem Value) (f : TypeId → Addr → Nat → Nat → Sem Value) (v : Value) :
    ReflectliteValue.method z f #[v] = (do match ← ReflectliteValue.parts v with | none => z | some (t, a, fl) => f t a fl (fl % 32)) := rfl
theorem partsP (a : Addr) (w : World) : (ReflectliteValue.parts (.agg #[.pointer (some (rtA 41)), .pointer (some a), .int .u64 150])).run Tryz.prog w = .ok (some (41, a, 150)) w := by kernel_rfl
theorem isNilP (a p : Addr) (W : World) (ha : W.cell? a = some (.pointer (some p))) :
    (ReflectliteValue.method (ReflectliteValue.valueError "reflectlite.Value.IsNil" 0) ReflectliteValue.isNil #[.agg #[.pointer (some (rtA 41)), .pointer (some a), .int .u64 150]]).run Tryz.prog W = .ok (.bool false) W := by
  rw [rlm]
  simp only [Sem.run_bind, partsP, Result.andThen]
  simp [ReflectliteValue.isNil, loadVar, isAgg, underlying, Tryz.underlying41, ha, Result.andThen]
theorem methodElem (n : Nat) (h : Value) (w : World) : (Go.method (n + 1) 100 (.agg #[h]) "Elem").run Tryz.prog w = .ok (150, .agg #[h]) w := by kernel_rfl
theorem methodImplements (n : Nat) (h : Value) (w : World) : (Go.method (n + 1) 100 (.agg #[h]) "Implements").run Tryz.prog w = .ok (151, .agg #[h]) w := by kernel_rfl
theorem methodAssignableTo (n : Nat) (h : Value) (w : World) : (Go.method (n + 1) 100 (.agg #[h]) "AssignableTo").run Tryz.prog w = .ok (148, .agg #[h]) w := by kernel_rfl
theorem elemP (w : World) : (ReflectliteType.method ReflectliteType.elem #[.agg #[.pointer (some (rtA 41))]]).run Tryz.prog w = .ok (.iface 100 (.agg #[.pointer (some (rtA 39))])) w := by kernel_rfl
theorem implementsE (w : World) : (ReflectliteType.relation "Implements" ReflectliteType.implements_ #[.agg #[.pointer (some (rtA 39))], .iface 100 (.agg #[.pointer (some (rtA 36))])]).run Tryz.prog w = .ok (.bool true) w := by kernel_rfl
theorem typeOfE (v : Value) (w : World) : (ReflectliteType.typeOf #[.iface 39 v]).run Tryz.prog w = .ok (.iface 100 (.agg #[.pointer (some (rtA 39))])) w := by kernel_rfl
theorem assignableE (w : World) : (ReflectliteType.relation "AssignableTo" ReflectliteType.assignableTo #[.agg #[.pointer (some (rtA 39))], .iface 100 (.agg #[.pointer (some (rtA 39))])]).run Tryz.prog w = .ok (.bool true) w := by kernel_rfl
theorem typeOfJ (v : Value) (w : World) : (ReflectliteType.typeOf #[.iface 130 v]).run Tryz.prog w = .ok (.iface 100 (.agg #[.pointer (some (rtA 130))])) w := by kernel_rfl
theorem assignableJ (w : World) : (ReflectliteType.relation "AssignableTo" ReflectliteType.assignableTo #[.agg #[.pointer (some (rtA 130))], .iface 100 (.agg #[.pointer (some (rtA 39))])]).run Tryz.prog w = .ok (.bool false) w := by kernel_rfl
theorem valueOfE (e : Addr) (w : World) : (ReflectliteValue.unpack (.iface 39 (.pointer (some e)))).run Tryz.prog w
    = .ok (.agg #[.pointer (some (rtA 39)), .pointer (some ⟨w.heap.size, 0, none⟩), .int .u64 150]) (w.alloc (.cells #[.pointer (some e)] 39)) := by kernel_rfl
theorem elemOfP (w : World) : (Rtype.elem? 41).run Tryz.prog w = .ok (some 39) w := by kernel_rfl
theorem mkE (p : Addr) (w : World) : (ReflectliteValue.mk 39 p ReflectliteValue.flagAddr).run Tryz.prog w = .ok (.agg #[.pointer (some (rtA 39)), .pointer (some p), .int .u64 406]) w := by kernel_rfl
theorem elemVP (a p : Addr) (W : World) (ha : W.cell? a = some (.pointer (some p))) :
    (ReflectliteValue.method (ReflectliteValue.valueError "reflectlite.Value.Elem" 0) ReflectliteValue.elem #[.agg #[.pointer (some (rtA 41)), .pointer (some a), .int .u64 150]]).run Tryz.prog W
      = .ok (.agg #[.pointer (some (rtA 39)), .pointer (some p), .int .u64 406]) W := by
  rw [rlm]
  simp only [Sem.run_bind, partsP, Result.andThen]
  simp [ReflectliteValue.elem, loadVar, isAgg, underlying, Tryz.underlying41, ha, Result.andThen, elemOfP, mkE]
theorem rls (v x : Value) : ReflectliteValue.set #[v, x] = (do
    let (some (dst, a, fl), some (src, b, _)) := (← ReflectliteValue.parts v, ← ReflectliteValue.parts x)
      | unsupported (.noEntry "extern/(internal/reflectlite.Value).Set.zeroValue")
    if fl / ReflectliteValue.flagAddr % 2 == 0 then unsupported (.noEntry "extern/(internal/reflectlite.Value).Set.unaddressable")
    let val ← loadVar src b
    if ← Rtype.directlyAssignable dst src then storeVar dst a val
    else if ← Rtype.implements dst src then
      if (← Rtype.kind src) == 20 then
        match val with
        | .nilIface => unsupported (.noEntry "extern/reflectlite: a nil value of one interface type handed on as a value of another")
        | _ => storeVar dst a val
      else storeVar dst a (.iface src val)
    else panicString ("reflectlite.Set: value of type " ++ (← Rtype.spelt src) ++ " is not assignable to type " ++ (← Rtype.spelt dst))
    pure (.tuple #[])) := rfl
theorem partsEa (a : Addr) (w : World) : (ReflectliteValue.parts (.agg #[.pointer (some (rtA 39)), .pointer (some a), .int .u64 406])).run Tryz.prog w = .ok (some (39, a, 406)) w := by kernel_rfl
theorem partsE (a : Addr) (w : World) : (ReflectliteValue.parts (.agg #[.pointer (some (rtA 39)), .pointer (some a), .int .u64 150])).run Tryz.prog w = .ok (some (39, a, 150)) w := by kernel_rfl
theorem directE (w : World) : (Rtype.directlyAssignable 39 39).run Tryz.prog w = .ok true w := by kernel_rfl
theorem setE (ta b e : Addr) (old : Value) (W : World) (hb : W.cell? b = some (.pointer (some e))) (ht : W.cell? ta = some old) (hf : W.frozen? ta = false) :
    (ReflectliteValue.set #[.agg #[.pointer (some (rtA 39)), .pointer (some ta), .int .u64 406], .agg #[.pointer (some (rtA 39)), .pointer (some b), .int .u64 150]]).run Tryz.prog W
      = .ok (.tuple #[]) (W.setCell ta (.pointer (some e))) := by
  rw [rls]
  simp only [Sem.run_bind, partsEa, partsE, Result.andThen]
  simp [ReflectliteValue.flagAddr, loadVar, isAgg, underlying, Tryz.underlying39, hb, Result.andThen, directE, storeVar, Value.cells, storeCells, Addr.add]
  rw [run_store Tryz.prog W ta _ _ (by rfl)]
  simp [ht, hf]
end Go.Proofs.YtejajdebpibocaaGreatDoor.errs
namespace Go.Proofs.YtejajdebpibocaaGreatDoor.errs
open Go.RowKit Go.Extern.Stop Go.Stop Go.Extern Go.Tre

/-! errors.As -/
set_option maxHeartbeats 4000000 in
/-- errors.as at an error that is of the target's own type -/
theorem as1_hit (e t a : Addr) (old : Value) (w : World) (ht0 : w.cell? t = some old) (hf0 : w.frozen? t = false) (ha : w.cell? a = some (.pointer (some t))) :
    Calls Tryz.prog 25 #[.iface 39 (.pointer (some e)), .iface 41 (.pointer (some t)), .agg #[.pointer (some (rtA 41)), .pointer (some a), .int .u64 150], .iface 100 (.agg #[.pointer (some (rtA 39))])] w
      fun ev w' => ev = .returned (.bool true) ∧ w' = ((w.alloc (.cells #[.pointer (some (rtA 41)), .pointer (some a), .int .u64 150] 59)).alloc (.cells #[.pointer (some e)] 39)).setCell t (.pointer (some e)) := by
  have h6 := @run_callFunc_extern Tryz.prog 22 _ (fun args => ReflectliteValue.unpack (args.getD 0 (.tuple #[]))) Tryz.func22 (by kernel_rfl) (by kernel_rfl) (by kernel_rfl) (by kernel_rfl)
  have h10 := @run_callFunc_extern Tryz.prog 39 _ ReflectliteType.typeOf Tryz.func39 (by kernel_rfl) (by kernel_rfl) (by kernel_rfl) (by kernel_rfl)
  have h35 := @run_callFunc_extern Tryz.prog 148 _ (ReflectliteType.relation "AssignableTo" ReflectliteType.assignableTo) Tryz.func148 (by kernel_rfl) (by kernel_rfl) (by kernel_rfl) (by kernel_rfl)
  have h11 := @run_callFunc_extern Tryz.prog 40 _ (ReflectliteValue.method (ReflectliteValue.valueError "reflectlite.Value.Elem" 0) ReflectliteValue.elem) Tryz.func40 (by kernel_rfl) (by kernel_rfl) (by kernel_rfl) (by kernel_rfl)
  have h12 := @run_callFunc_extern Tryz.prog 41 _ ReflectliteValue.set Tryz.func41 (by kernel_rfl) (by kernel_rfl) (by kernel_rfl) (by kernel_rfl)
  have tO := typeOfE
  have mA := methodAssignableTo
  have a25 := assignableE
  have v25 := valueOfE
  have htl : t.block < w.heap.size := World.block_lt_of_cell? w t ht0
  have hal : a.block < w.heap.size := World.block_lt_of_cell? w a ha
  have el := elemVP a t (w.alloc (.cells #[.pointer (some (rtA 41)), .pointer (some a), .int .u64 150] 59)) (by rw [World.cell?_alloc_lt _ _ a hal]; exact ha)
  have st := setE t ⟨w.heap.size + 1, 0, none⟩ e old ((w.alloc (.cells #[.pointer (some (rtA 41)), .pointer (some a), .int .u64 150] 59)).alloc (.cells #[.pointer (some e)] 39))
    (by rw [World.cell?_alloc_at _ _ _ _ (by simp)]; rfl)
    (by rw [World.cell?_alloc_lt _ _ t (by simp; omega), World.cell?_alloc_lt _ _ t htl]; exact ht0)
    (by rw [World.frozen?_alloc_old _ _ t (by simp; omega), World.frozen?_alloc_old _ _ t (Nat.ne_of_lt htl)]; exact hf0)
  go_enter Tryz.func25, Tryz.ntmps25
  go_wp2
  refine wp_loop_rounds 1 ?_
  rw [rounds_succ]
  go_wp2
  go_ret
  exact ⟨rfl, rfl⟩
end Go.Proofs.YtejajdebpibocaaGreatDoor.errs
namespace Go.Proofs.YtejajdebpibocaaGreatDoor.errs
open Go.RowKit Go.Extern.Stop Go.Stop Go.Extern Go.Tre
theorem methodUnwrap (n : Nat) (h : Value) (w : World) : (Go.method (n + 1) 130 h "Unwrap").run Tryz.prog w = .ok (159, h) w := by kernel_rfl
theorem noAs (v : Value) (xT : TypeId) (w : World) : (Instr.typeAssert (.iface 130 v) xT 105 true).run Tryz.prog w = .ok (.tuple #[.nilIface, .bool false]) w := run_typeAssert_lacksB Tryz.underlying105 (by kernel_rfl) (by kernel_rfl) v xT w
theorem noUnwrap (v : Value) (xT : TypeId) (w : World) : (Instr.typeAssert (.iface 130 v) xT 108 true).run Tryz.prog w = .ok (.tuple #[.nilIface, .bool false]) w := run_typeAssert_lacksB Tryz.underlying108 (by kernel_rfl) (by kernel_rfl) v xT w
theorem hasUnwraps (v : Value) (xT : TypeId) (w : World) : (Instr.typeAssert (.iface 130 v) xT 109 true).run Tryz.prog w = .ok (.tuple #[.iface 130 v, .bool true]) w := run_typeAssert_hasB Tryz.underlying109 (by kernel_rfl) v xT w
theorem unwrap (q : Nat) (v : Value) (w : World) (hq : w.cell? ⟨q, 0, none⟩ = some v) :
    Calls Tryz.prog 159 #[.pointer (some ⟨q, 0, none⟩)] w fun e w' => e = .returned v ∧ w = w' := by
  go_enter Tryz.func159, Tryz.ntmps159
  go_wp2
  go_ret
  exact ⟨rfl, rfl⟩
set_option maxRecDepth 100000 in
set_option maxHeartbeats 4000000 in
theorem as1_join (p q r c : Nat) (x : Value) (t a : Addr) (old : Value) (w : World) (ht0 : w.cell? t = some old) (hf0 : w.frozen? t = false) (ha : w.cell? a = some (.pointer (some t)))
    (hq : w.cell? ⟨q, 0, none⟩ = some (.slice (some ⟨r, 0, none⟩) 2 c)) (hr : w.cell? ⟨r, 0, none⟩ = some (.iface 39 (.pointer (some ⟨p, 0, none⟩)))) :
    Calls Tryz.prog 25 #[.iface 130 (.pointer (some ⟨q, 0, none⟩)), .iface 41 (.pointer (some t)), .agg #[.pointer (some (rtA 41)), .pointer (some a), .int .u64 150], .iface 100 (.agg #[.pointer (some (rtA 39))])] w
      fun ev w' => ev = .returned (.bool true) ∧ w' = (((w.alloc (.cells #[.pointer (some (rtA 41)), .pointer (some a), .int .u64 150] 59)).alloc (.cells #[.pointer (some (rtA 41)), .pointer (some a), .int .u64 150] 59)).alloc (.cells #[.pointer (some ⟨p, 0, none⟩)] 39)).setCell t (.pointer (some ⟨p, 0, none⟩)) := by
  have h10 := @run_callFunc_extern Tryz.prog 39 _ ReflectliteType.typeOf Tryz.func39 (by kernel_rfl) (by kernel_rfl) (by kernel_rfl) (by kernel_rfl)
  have h35 := @run_callFunc_extern Tryz.prog 148 _ (ReflectliteType.relation "AssignableTo" ReflectliteType.assignableTo) Tryz.func148 (by kernel_rfl) (by kernel_rfl) (by kernel_rfl) (by kernel_rfl)
  have tO := typeOfJ
  have mA := methodAssignableTo
  have mU := methodUnwrap
  have na := noAs
  have nu := noUnwrap
  have nh := hasUnwraps
  have aJ := assignableJ
  go_enter Tryz.func25, Tryz.ntmps25
  go_wp2
  refine wp_loop_rounds 1 ?_
  rw [rounds_succ]
  go_wp2_with fail
  refine (unwrap q _ _ (by rw [World.cell?_alloc_lt _ _ _ (World.block_lt_of_cell? w _ hq)]; exact hq)).mono ?_
  rintro e w' ⟨rfl, rfl⟩
  have hr' : (w.alloc (.cells #[.pointer (some (rtA 41)), .pointer (some a), .int .u64 150] 59)).cell? ⟨r, 0, none⟩ = some (.iface 39 (.pointer (some ⟨p, 0, none⟩))) := by rw [World.cell?_alloc_lt _ _ _ (World.block_lt_of_cell? w _ hr)]; exact hr
  have ht' : (w.alloc (.cells #[.pointer (some (rtA 41)), .pointer (some a), .int .u64 150] 59)).cell? t = some old := by rw [World.cell?_alloc_lt _ _ _ (World.block_lt_of_cell? w _ ht0)]; exact ht0
  have hf' : (w.alloc (.cells #[.pointer (some (rtA 41)), .pointer (some a), .int .u64 150] 59)).frozen? t = false := by rw [World.frozen?_alloc_old _ _ t (Nat.ne_of_lt (World.block_lt_of_cell? w _ ht0))]; exact hf0
  have ha' : (w.alloc (.cells #[.pointer (some (rtA 41)), .pointer (some a), .int .u64 150] 59)).cell? a = some (.pointer (some t)) := by rw [World.cell?_alloc_lt _ _ _ (World.block_lt_of_cell? w _ ha)]; exact ha
  go_wp2_with fail
  refine wp_loop_rounds 1 ?_
  rw [rounds_succ]
  go_wp2_with fail
  refine (as1_hit ⟨p, 0, none⟩ t a old _ ht' hf' ha').mono ?_
  rintro e w' ⟨rfl, rfl⟩
  go_wp2_with fail
  go_ret
  exact ⟨rfl, rfl⟩
end Go.Proofs.YtejajdebpibocaaGreatDoor.errs
namespace Go.Proofs.YtejajdebpibocaaGreatDoor.errs
open Go.RowKit Go.Extern.Stop Go.Stop Go.Extern Go.Tre
set_option maxRecDepth 100000 in
set_option maxHeartbeats 4000000 in
/-- errors.As, its error's errors.as by a contract -/
theorem as_of (x : Value) (t : Addr) (old : Value) (w : World) (hx : x ≠ .nilIface) (hx' : ∃ tx vx, x = .iface tx vx) (hg : ErrT w) (ht0 : w.cell? t = some old) (hf0 : w.frozen? t = false) (p : Nat)
    (H : ∀ (a : Addr) (w1 : World), w1.cell? t = some old → w1.frozen? t = false → w1.cell? a = some (.pointer (some t)) → Below w.heap.size w w1 →
      Calls Tryz.prog 25 #[x, .iface 41 (.pointer (some t)), .agg #[.pointer (some (rtA 41)), .pointer (some a), .int .u64 150], .iface 100 (.agg #[.pointer (some (rtA 39))])] w1
        fun ev w' => ev = .returned (.bool true) ∧ ∃ w2, Below w1.heap.size w1 w2 ∧ w' = w2.setCell t (.pointer (some ⟨p, 0, none⟩))) :
    Calls Tryz.prog 13 #[x, .iface 41 (.pointer (some t))] w fun ev w' => ev = .returned (.bool true) ∧ ∃ w2, Below w.heap.size w w2 ∧ w' = w2.setCell t (.pointer (some ⟨p, 0, none⟩)) := by
  have h6 := @run_callFunc_extern Tryz.prog 22 _ (fun args => ReflectliteValue.unpack (args.getD 0 (.tuple #[]))) Tryz.func22 (by kernel_rfl) (by kernel_rfl) (by kernel_rfl) (by kernel_rfl)
  have h7 := @run_callFunc_extern Tryz.prog 23 _ (ReflectliteValue.methodAny (ReflectliteValue.valueError "reflectlite.Value.Type" 0) (fun t _ _ _ => ReflectliteType.toType t)) Tryz.func23 (by kernel_rfl) (by kernel_rfl) (by kernel_rfl) (by kernel_rfl)
  have h8 := @run_callFunc_extern Tryz.prog 24 _ (ReflectliteValue.method (ReflectliteValue.valueError "reflectlite.Value.IsNil" 0) ReflectliteValue.isNil) Tryz.func24 (by kernel_rfl) (by kernel_rfl) (by kernel_rfl) (by kernel_rfl)
  have h27 := @run_callFunc_extern Tryz.prog 140 _ (ReflectliteType.abiMethod fun t => do pure (.int .u8 (← Rtype.kind t))) Tryz.func140 (by kernel_rfl) (by kernel_rfl) (by kernel_rfl) (by kernel_rfl)
  have h37 := @run_callFunc_extern Tryz.prog 150 _ (ReflectliteType.method ReflectliteType.elem) Tryz.func150 (by kernel_rfl) (by kernel_rfl) (by kernel_rfl) (by kernel_rfl)
  have h38 := @run_callFunc_extern Tryz.prog 151 _ (ReflectliteType.relation "Implements" ReflectliteType.implements_) Tryz.func151 (by kernel_rfl) (by kernel_rfl) (by kernel_rfl) (by kernel_rfl)
  have f6 := valueOfP
  have f7 := typeP
  have mK := methodKind
  have mE := methodElem
  have mI := methodImplements
  have k27 := kindP
  have k25 := kindE
  have e27 := elemP
  have i25 := implementsE
  have htl : t.block < w.heap.size := World.block_lt_of_cell? w t ht0
  have n8 := isNilP ⟨w.heap.size, 0, none⟩ t ((w.alloc (.cells #[.pointer (some t)] 41)).alloc (.cells #[.pointer (some (rtA 41)), .pointer (some ⟨w.heap.size, 0, none⟩), .int .u64 150] 59)) (by simp)
  have hlt : 0 < w.heap.size := World.block_lt_of_cell? w _ hg
  have hg2 : ((w.alloc (.cells #[.pointer (some t)] 41)).alloc (.cells #[.pointer (some (rtA 41)), .pointer (some ⟨w.heap.size, 0, none⟩), .int .u64 150] 59)).cell? ⟨0, 0, none⟩ = some (.iface 100 (.agg #[.pointer (some (rtA 36))])) := by
    rw [World.cell?_alloc_lt _ _ ⟨0, 0, none⟩ (by simp; try omega), World.cell?_alloc_lt _ _ ⟨0, 0, none⟩ hlt]; exact hg
  have H1 := H ⟨w.heap.size, 0, none⟩ ((w.alloc (.cells #[.pointer (some t)] 41)).alloc (.cells #[.pointer (some (rtA 41)), .pointer (some ⟨w.heap.size, 0, none⟩), .int .u64 150] 59))
    (by rw [World.cell?_alloc_lt _ _ t (by simp; omega), World.cell?_alloc_lt _ _ t htl]; exact ht0)
    (by rw [World.frozen?_alloc_old _ _ t (by simp; omega), World.frozen?_alloc_old _ _ t (Nat.ne_of_lt htl)]; exact hf0)
    (by rw [World.cell?_alloc_lt _ _ ⟨w.heap.size, 0, none⟩ (by simp), World.cell?_alloc_at _ _ _ _ (by simp)]; rfl)
    (((Below.refl _ _).alloc (Nat.le_refl _) _).alloc (by simp) _)
  have HH := Tre.hid H1
  have HHT := Tre.hid hg
  clear H1 H hg
  obtain ⟨tx, vx, rfl⟩ := hx'
  clear hx
  go_enter Tryz.func13, Tryz.ntmps13
  go_wp2_with fail
  refine HH.out.mono ?_
  rintro e w' ⟨rfl, w2, hb, rfl⟩
  have HB := Tre.hid hb
  clear hb
  go_wp2_with fail
  go_ret
  exact ⟨rfl, w2, (((Below.refl _ w).alloc (Nat.le_refl _) _).alloc (by simp) _).trans (HB.out.mono (by simp; omega)), rfl⟩
theorem as_any (v : Value) (bs : List Nat) (at_ no : Nat) (t : Addr) (old : Value) (w : World) (hE : ErrIn w bs v at_ no) (hg : ErrT w) (ht0 : w.cell? t = some old) (hf0 : w.frozen? t = false) :
    Calls Tryz.prog 13 #[v, .iface 41 (.pointer (some t))] w fun ev w' => ev = .returned (.bool true) ∧ ∃ p w2, Below w.heap.size w w2 ∧ w.heap[p]? = some (.cells #[.int .i64 at_, .int .i64 no] 43 (0, 0)) ∧ w' = w2.setCell t (.pointer (some ⟨p, 0, none⟩)) := by
  rcases hE with ⟨p, rfl, rfl, h1⟩ | ⟨p, q, r, tq, x, c, rfl, rfl, h1, h2, ⟨t', cs, fz, h3, h4, h4'⟩, h5⟩
  · refine (as_of _ t old w (by intro h; cases h) ⟨_, _, rfl⟩ hg ht0 hf0 p ?_).mono ?_
    · intro a w1 c1 c2 c3 hb
      refine (as1_hit ⟨p, 0, none⟩ t a old w1 c1 c2 c3).mono ?_
      rintro e w' ⟨rfl, rfl⟩
      exact ⟨rfl, _, ((Below.refl _ w1).alloc (Nat.le_refl _) _).alloc (by simp) _, rfl⟩
    · rintro e w' ⟨rfl, w2, hb, rfl⟩
      exact ⟨rfl, p, w2, hb, h1, rfl⟩
  · refine (as_of _ t old w (by intro h; cases h) ⟨_, _, rfl⟩ hg ht0 hf0 p ?_).mono ?_
    · intro a w1 c1 c2 c3 hb
      refine (as1_join p q r c x t a old w1 c1 c2 c3 ?_ ?_).mono ?_
      · exact cell_below hb (by simp [World.cell?, h2])
      · exact cell_below hb (by simp [World.cell?, h3, h4])
      · rintro e w' ⟨rfl, rfl⟩
        exact ⟨rfl, _, (((Below.refl _ w1).alloc (Nat.le_refl _) _).alloc (by simp) _).alloc (by simp; omega) _, rfl⟩
    · rintro e w' ⟨rfl, w2, hb, rfl⟩
      exact ⟨rfl, p, w2, hb, h1, rfl⟩
end Go.Proofs.YtejajdebpibocaaGreatDoor.errs
namespace Go.Tre
/-- what the lexer wants of the library's variables -/
structure LexEnv (w : World) : Prop where
  max : MaxAt w
  sp : SpaceAt w
  rg : Go.Proofs.YtejajdebpibocaaGreatDoor.lex.RangeAt w
  et : ErrT w
theorem LexEnv.below {w w' : World} (h : LexEnv w) (hb : RowKit.Below w.heap.size w w') : LexEnv w' := ⟨h.max.below hb, h.sp.below hb, h.rg.below hb, h.et.below hb⟩
end Go.Tre
namespace Go.Proofs.YtejajdebpibocaaGreatDoor.lex
open Go.RowKit Go.Tre
theorem next (w0 : World) (rs : List Res) (b : Nat) (s x : ByteArray) (k : Nat) (w : World) (h : Mem w0 w (lexR b s k :: rs)) (hk : k ≤ s.size) (hs : s.size ≤ 4194304) (hx : x.data.toList = s.data.toList.drop k) (h0 : 0 < x.size) (E : LexEnv w0) :
    Calls Tryz.prog 21 #[.pointer (some ⟨b, 0, none⟩)] w (NextPost w0 rs b s k (nextS x.data.toList)) := by
  by_cases h1 : 100 < wordLen x
  · exact next_word_long w0 rs b s x k w h hk hs hx E.max h1
  · by_cases h2 : 0 < wordLen x
    · exact next_word_short w0 rs b s x k w h hk hs hx E.max ⟨h2, by omega⟩
    · have hw : wordLen x = 0 := by omega
      by_cases h39 : x[0] = 39
      · by_cases h3 : wordLen (x.extract 1 x.size) = 0
        · exact next_tick_none w0 rs b s x k w h hk hs hx E.max h0 hw h39 h3
        · by_cases h4 : 100 < wordLen (x.extract 1 x.size)
          · exact next_tick_long w0 rs b s x k w h hk hs hx E.max h0 hw h39 h4
          · exact next_tick_some w0 rs b s x k w h hk hs hx E.max h0 hw h39 (by omega) (by omega)
      · by_cases h34 : x[0] = 34
        · cases hq : quotedS (x.extract 1 x.size).data.toList with
          | none => exact next_quote_none w0 rs b s x k w h hk hs hx E.max h0 hw h34 hq
          | some p => exact next_quote_some w0 rs b s x k w h hk hs hx E.max h0 hw h34 p hq
        · by_cases h5 : (x[0].toNat : Int) < 48
          · exact next_sym_lo w0 rs b s x k w h hk hs hx E.max h0 hw E.sp h39 h34 h5
          · by_cases h6 : 57 < (x[0].toNat : Int)
            · exact next_sym_hi w0 rs b s x k w h hk hs hx E.max h0 hw E.sp h39 h34 h6
            · by_cases h7 : digitsVal (x.data.toList.takeWhile isDig) ≤ 9223372036854775807
              · exact next_num_ok w0 rs b s x k w h hk hs hx E.max h0 hw (by omega) (by omega) h7
              · exact next_num_no w0 rs b s x k w h hk hs hx E.max h0 hw E.rg (by omega) (by omega) h7
end Go.Proofs.YtejajdebpibocaaGreatDoor.lex
namespace Go.Tre
open Go.RowKit
def tokCells (t : Tok) : List Value := [.int .i64 t.kind, .int .i64 t.at_, .int .i64 t.n, .string ⟨t.s.toArray⟩]
theorem tokCells_len (ts : List Tok) : (ts.flatMap tokCells).length = ts.length * 4 := by
  induction ts with
  | nil => rfl
  | cons t r ih => rw [List.flatMap_cons, List.length_append, ih, List.length_cons]; simp [tokCells]; omega
abbrev toksR (v : Value) (ts : List Tok) : Res := rowR 29 4 v ts.length (ts.flatMap tokCells)
def AllPost (w : World) (s : ByteArray) (D : Option (List Tok)) (e : Ending) (w' : World) : Prop :=
  (∃ ts v, D = some ts ∧ e = .returned (.tuple #[v, .nilIface]) ∧ Mem w w' [toksR v ts]) ∨
  (D = none ∧ ∃ v bs, ∃ at_ : Nat, e = .returned (.tuple #[.slice none 0 0, v]) ∧ Mem w w' [errR bs v at_ (if s.size ≤ 65536 then 5 else 3)])
theorem errIface {w : World} {bs : List Nat} {v : Value} {a no : Nat} (h : ErrIn w bs v a no) : ∃ te ve, v = .iface te ve := by
  rcases h with ⟨p, _, rfl, _⟩ | ⟨p, q, r, t, x, c, _, rfl, _⟩
  · exact ⟨_, _, rfl⟩
  · exact ⟨_, _, rfl⟩
theorem lexS_none_long {s : ByteArray} (h : ¬ s.size ≤ 65536) : lexS s.data.toList = none := by
  unfold lexS
  rw [if_neg (by exact h)]
theorem lexS_short {s : ByteArray} (h : s.size ≤ 65536) : lexS s.data.toList = allS s.size s.data.toList := by
  unfold lexS
  rw [if_pos (by exact h)]
  rfl
end Go.Tre
namespace Go.Proofs.YtejajdebpibocaaGreatDoor.lex
open Go.RowKit Go.Tre
theorem infoTok : (Tryz.prog.info? 29).map (fun i => (i.zero, i.size, i.bytes)) = some (some (.agg (tokV 0 0 0 ⟨#[]⟩)), 4, 40) := by kernel_rfl
set_option maxRecDepth 100000 in
set_option maxHeartbeats 8000000 in
theorem all (s : ByteArray) (w : World) (hs : s.size ≤ 4194304) (E : LexEnv w) :
    Calls Tryz.prog 12 #[.string s] w (AllPost w s (lexS s.data.toList)) := by
  by_cases h6 : s.size ≤ 65536
  · obtain ⟨ti, T1, T2, T3, T4⟩ := info_parts infoTok
    have K2 := Tre.hid T2
    have K3 := Tre.hid T3
    have K4 := Tre.hid T4
    have HE := Tre.hid E
    obtain ⟨D, hD⟩ : ∃ D, Hid (allS s.size s.data.toList = D) := ⟨_, rfl⟩
    rw [lexS_short h6, hD.out]
    have HM0 := Tre.hid (((Mem.nil w).addNil 29 4).allocR #[.string s, .int .i64 0] 51)
    clear E T2 T3 T4
    go_enter Tryz.func12, Tryz.ntmps12
    go_wp2_with fail
    go_loopg [5] (s.size) (fun gk v5 wr => ∃ (u5 : Value) (k : Nat) (ts : List Tok), v5 = u5 ∧ Hid (D = (allS s.size (s.data.toList.drop k)).map (ts ++ ·) ∧ gk = s.size - k) ∧ k ≤ s.size ∧ ts.length ≤ k ∧ Hid (Mem w wr [lexR w.heap.size s k, toksR u5 ts]))
    case atStart => exact ⟨_, 0, [], rfl, ⟨by rw [← hD.out]; simp, rfl⟩, Nat.zero_le _, Nat.le_refl _, HM0.out⟩
    case round =>
      obtain ⟨u5, k, ts, rfl, hI, hk, htk, HM⟩ := hrel
      go_wp2_with fail
      refine (skip w _ w.heap.size s k wr HM.out hk hs HE.out.max).mono ?_
      intro e w' hp
      rcases hp with ⟨k', hk', hSK, rfl, M⟩ | ⟨hSK, v, bs, k', hk', rfl, M⟩
      · have HMa := Tre.hid M
        have HSK := Tre.hid hSK
        clear M hSK HM
        obtain ⟨x, hx⟩ : ∃ x : ByteArray, Hid (x.data.toList = s.data.toList.drop k') := ⟨s.extract k' s.size, extract_list s k'⟩
        have hxs : Hid (x.size = s.size - k') := by
          have := congrArg List.length hx.out
          show _ = _
          simpa using this
        have hkk : k ≤ k' := by
          have h1 := skipS_len HSK.out
          simp at h1
          omega
        go_wp2_with fail
        refine (rest_is w.heap.size s k' x _ (lexAt HMa.out 0 rfl) hk' (by omega) hx.out).mono ?_
        rintro e w2 ⟨rfl, mq⟩
        have HMb := Tre.hid (HMa.out.quiet mq)
        clear mq HMa
        by_cases hx0 : x.size = 0
        · have e0 := emp1 hx0
          have e1 : (!x.toList.isEmpty) = false := by rw [e0]; rfl
          have hkN : Hid (k' = s.size) := by show _ = _; have := hxs.out; omega
          have HD : Hid (D = some (ts ++ [⟨0, s.size, 0, []⟩])) := by
            show _ = _
            have hd : s.data.toList.drop k' = [] := by rw [← hx.out]; exact toList_empty.2 hx0
            rw [hI.out.1, allS_eq, HSK.out, hd]; rfl
          obtain ⟨a5, c5, rfl, _⟩ := HMb.out.val 1 rfl
          obtain ⟨l0, l1⟩ := HMb.out.two 0 rfl
          have MB := Tre.hid (HMb.out.allocRow #[.int .i64 0, .int .i64 (k' : Int), .int .i64 0, .string ⟨#[]⟩] 29 4 1 (by unfold maxLen; omega) rfl)
          clear hx0
          go_wp2_with (at_builtin; refine wpList_append_row _ rfl _ _ 23 rfl 29 ti _ 4 40 Tryz.underlying23 T1 K2.out K3.out K4.out rfl (by omega) (.slice a5 ts.length c5) ts.length (ts.flatMap tokCells) rfl (MB.out.row 2 rfl) (some ⟨w2.heap.size, 0, none⟩) 1 1 [.int .i64 0, .int .i64 (k' : Int), .int .i64 0, .string ⟨#[]⟩] rfl ⟨rfl, fun j u hj => ⟨_, 0, rfl, by rw [Nat.zero_add]; exact MB.out.cellAt 0 rfl j hj⟩⟩ (by simp [Value.oneCell']) (by unfold maxLen; omega) (by omega) ?_; intro v9 w9 hown9 hgrow9 hat9; have M9 := MB.out.grow 2 rfl hgrow9 hown9 hat9; obtain ⟨a9, c9, rfl, _⟩ := M9.val 2 rfl; have HM9 := Tre.hid M9; clear M9 hown9 hgrow9 hat9)
          go_ret2
          refine .inl ⟨ts ++ [⟨0, s.size, 0, []⟩], .slice a9 (ts.length + 1) c9, HD.out, rfl, ?_⟩
          have h := (HM9.out.del 0).del 0
          rw [hkN.out] at h
          show Mem _ _ [rowR _ _ _ _ _]
          rw [List.length_append, List.length_singleton, List.flatMap_append]
          exact h
        · have e0 := emp0 hx0
          have e1 : (!x.toList.isEmpty) = true := by rw [e0]; rfl
          have hx1 : 0 < x.size := by omega
          obtain ⟨c, r, hcr⟩ : ∃ c r, Hid (s.data.toList.drop k' = c :: r) := by
            cases hdr : s.data.toList.drop k' with
            | nil => exact absurd (toList_empty.1 (hx.out.trans hdr)) hx0
            | cons c r => exact ⟨c, r, rfl⟩
          clear hx0
          go_wp2_with fail
          refine (next w _ w.heap.size s x k' _ HMb.out hk' hs hx.out hx1 HE.out).mono ?_
          intro e w3 hp
          rcases hp with ⟨t, n, y, hN, hy, rfl, M⟩ | ⟨hN, ka, kb, kc, y, mv, v, bs, rfl, M⟩
          · have hnl := nextS_len hN
            have hnx : 1 ≤ n ∧ k' + n ≤ s.size := by
              have h1 : x.data.toList.length = x.size := rfl
              have h2 := hxs.out
              omega
            have hn1 := hnx.1
            have hn2 := hnx.2
            have HD : Hid (D = (allS s.size (s.data.toList.drop (k' + n))).map ((ts ++ [{ t with at_ := k' }]) ++ ·)) := by
              show _ = _
              rw [hx.out, hcr.out] at hN
              have hl : s.size - (c :: r).length = k' := by
                rw [← hcr.out]; simp; omega
              rw [hI.out.1, allS_eq, HSK.out, hcr.out]
              simp only
              rw [hN]
              simp only
              rw [hl, ← hcr.out, List.drop_drop]
              cases allS s.size (s.data.toList.drop (k' + n)) <;> simp
            have HY : Hid (y = ⟨t.s.toArray⟩) := data_inj' (by rw [hy])
            obtain ⟨a5, c5, rfl, _⟩ := M.val 1 rfl
            have MA := M.allocR #[.int .i64 (t.kind : Int), .int .i64 (k' : Int), .int .i64 t.n, .string y] 29
            have HMA := Tre.hid MA
            have hw3 : w.heap.size < w3.heap.size := by have := (Array.getElem?_eq_some_iff.1 (M.heap 0 rfl)).1; exact this
            have MB' := MA.allocRow #[.int .i64 (t.kind : Int), .int .i64 (k' : Int), .int .i64 t.n, .string y] 29 4 1 (by unfold maxLen; omega) rfl
            rw [World.size_alloc] at MB'
            have MB := Tre.hid MB'
            clear hnl hnx hN hy M MA MB' HMb
            go_wp2_with (at_builtin; refine wpList_append_row _ rfl _ _ 23 rfl 29 ti _ 4 40 Tryz.underlying23 T1 K2.out K3.out K4.out rfl (by omega) (.slice a5 ts.length c5) ts.length (ts.flatMap tokCells) rfl (MB.out.row 3 rfl) (some ⟨w3.heap.size + 1, 0, none⟩) 1 1 [.int .i64 (t.kind : Int), .int .i64 (k' : Int), .int .i64 t.n, .string y] rfl ⟨rfl, fun j u hj => ⟨_, 0, rfl, by rw [Nat.zero_add]; exact MB.out.cellAt 0 rfl j hj⟩⟩ (by simp [Value.oneCell']) (by unfold maxLen; omega) (by omega) ?_; intro v9 w9 hown9 hgrow9 hat9; have M9 := MB.out.grow 3 rfl hgrow9 hown9 hat9; obtain ⟨a9, c9, rfl, _⟩ := M9.val 3 rfl; obtain ⟨l0, l1⟩ := M9.two 2 rfl; have f1 := M9.free 2 rfl 1; have HM9 := Tre.hid M9; clear M9 hown9 hgrow9 hat9)
            have M10 := (HM9.out.setCell 2 rfl 1 (.int .i64 ((k' : Int) + (n : Int)))).del 0
            have M11 := M10.del 0
            go_roundg (s.size - (k' + n))
            case measure => have h1 := hI.out.2; rw [h1]; omega
            case rel =>
              refine ⟨.slice a9 (ts.length + 1) c9, k' + n, ts ++ [{ t with at_ := k' }], rfl, ⟨HD.out, rfl⟩, hn2, by simp; omega, ?_⟩
              show Mem _ _ [_, rowR _ _ _ _ _]
              rw [List.length_append, List.length_singleton, List.flatMap_append]
              rw [HY.out, show ((k' : Int) + (n : Int)) = ((k' + n : Nat) : Int) by omega] at M11
              exact M11
          · have HD : Hid (D = none) := by
              show _ = _
              rw [hx.out, hcr.out] at hN
              rw [hI.out.1, allS_eq, HSK.out, hcr.out]
              simp only
              rw [hN]; rfl
            obtain ⟨te, ve, rfl⟩ := errIface (M.at_ 0 rfl)
            have HM3 := Tre.hid M
            clear M hN HMb
            go_wp2_with fail
            go_ret2
            refine .inr ⟨HD.out, _, bs, k', rfl, ?_⟩
            rw [if_pos h6]
            exact ((HM3.out.alloc _).del 1).del 1
      · have HD : Hid (D = none) := by
          show _ = _
          rw [hI.out.1, allS_eq, hSK]; rfl
        obtain ⟨te, ve, rfl⟩ := errIface (M.at_ 0 rfl)
        have HM3 := Tre.hid M
        clear M hSK HM
        go_wp2_with fail
        go_ret2
        refine .inr ⟨HD.out, _, bs, k', rfl, ?_⟩
        rw [if_pos h6]
        exact (HM3.out.del 1).del 1
  · have HL := Tre.hid (lexS_none_long h6)
    have H7 := Tre.hid h6
    have h8 : 65536 < s.size := by omega
    clear h6
    go_enter Tryz.func12, Tryz.ntmps12
    go_wp2_with fail
    go_ret2
    refine .inr ⟨HL.out, _, [w.heap.size], 0, rfl, ?_⟩
    rw [if_neg H7.out]
    exact ((Mem.nil w).allocR #[.int .i64 0, .int .i64 3] 43).as_ 0 rfl _ (fun hp => .inl ⟨_, rfl, rfl, hp⟩) (fun b hb => List.mem_singleton.1 hb)
end Go.Proofs.YtejajdebpibocaaGreatDoor.lex
namespace Go.Tre
open Go.RowKit
def LexPost (w : World) (s : ByteArray) (D : Option (List Tok)) (e : Ending) (w' : World) : Prop :=
  (∃ ts v, D = some ts ∧ e = .returned (.tuple #[v, .int .i64 0, .int .i64 0]) ∧ Mem w w' [toksR v ts]) ∨
  (D = none ∧ ∃ at_ : Nat, e = .returned (.tuple #[.slice none 0 0, .int .i64 at_, .int .i64 ((if s.size ≤ 65536 then 5 else 3 : Nat) : Int)]) ∧ Below w.heap.size w w')
end Go.Tre
namespace Go.Proofs.YtejajdebpibocaaGreatDoor.lex
open Go.RowKit Go.Tre
set_option maxRecDepth 100000 in
set_option maxHeartbeats 8000000 in
theorem Lex (s : ByteArray) (w : World) (hs : s.size ≤ 4194304) (E : LexEnv w) :
    Calls Tryz.prog 7 #[.string s] w (LexPost w s (lexS s.data.toList)) := by
  have HE := Tre.hid E
  obtain ⟨D, hD⟩ : ∃ D, Hid (lexS s.data.toList = D) := ⟨_, rfl⟩
  have HA := Tre.hid (all s w hs E)
  rw [hD.out] at HA ⊢
  clear E
  go_enter Tryz.func7, Tryz.ntmps7
  go_wp2_with fail
  refine HA.out.mono ?_
  intro e w1 hp
  rcases hp with ⟨ts, v, hd, rfl, M⟩ | ⟨hd, v, bs, at_, rfl, M⟩
  · have HM := Tre.hid M
    have HD := Tre.hid hd
    clear M hd
    go_wp2_with fail
    refine (errs.as_nil _ _).mono ?_
    rintro e w' ⟨rfl, rfl⟩
    go_wp2_with fail
    go_ret3
    exact .inl ⟨ts, v, HD.out, rfl, HM.out.alloc _⟩
  · generalize hno : (if s.size ≤ 65536 then 5 else 3) = no at *
    have HM := Tre.hid (M.allocR #[.pointer none] 39)
    have HD := Tre.hid hd
    have HN := Tre.hid hno
    have hbelow := HM.out.below
    have HEI := HM.out.at_ 1 rfl
    have hc := HM.out.cell 0 rfl 0 rfl
    have hf := HM.out.free 0 rfl 0
    obtain ⟨te, ve, rfl⟩ := errIface (M.at_ 0 rfl)
    have HAS := Tre.hid (errs.as_any _ bs at_ no ⟨w1.heap.size, 0, none⟩ _ _ HEI (HE.out.et.below hbelow) hc hf)
    clear M hd hno HEI hc hf hbelow
    go_wp2_with fail
    refine HAS.out.mono ?_
    rintro e w' ⟨rfl, p, w2, hb, hp, rfl⟩
    have hM2 := HM.out.quiet hb
    have M3 := hM2.setCell 0 rfl 0 (.pointer (some ⟨p, 0, none⟩))
    have hw1 : p < (w1.alloc (.cells #[.pointer none] 39)).heap.size := (Array.getElem?_eq_some_iff.1 hp).1
    have hne : p ≠ w1.heap.size := by
      intro e
      have h1 := (heap_alloc_new w1 (.cells #[.pointer none] 39)).symm.trans (e ▸ hp)
      simp at h1
    have hp2 : w2.heap[p]? = some (.cells #[.int .i64 at_, .int .i64 no] 43 (0, 0)) := (hb.block p hw1).trans hp
    have hp3 : (w2.setCell ⟨w1.heap.size, 0, none⟩ (.pointer (some ⟨p, 0, none⟩))).heap[p]? = some (.cells #[.int .i64 at_, .int .i64 no] 43 (0, 0)) := (Below.heap_setCell w2 ⟨w1.heap.size, 0, none⟩ _ p hne).trans hp2
    generalize hg : w2.setCell ⟨w1.heap.size, 0, none⟩ (.pointer (some ⟨p, 0, none⟩)) = w3 at M3 hp3 ⊢
    have q0 : w3.cell? ⟨w1.heap.size, 0, none⟩ = some (.pointer (some ⟨p, 0, none⟩)) := M3.cell 0 rfl 0 rfl
    have q1 : w3.cell? ⟨p, 0, none⟩ = some (.int .i64 at_) := by simp [World.cell?, hp3]
    have q2 : w3.cell? ⟨p, 1, none⟩ = some (.int .i64 no) := by simp [World.cell?, hp3]
    have HM3 := Tre.hid M3.none_
    clear hg hp2 hp3 M3 hM2 hb hp hw1 hne HAS HM
    go_wp2_with fail
    go_region_held3 (fun w' => Below w3.heap.size w3 w' ∧ w'.cell? ⟨w1.heap.size, 0, none⟩ = some (.pointer (some ⟨p, 0, none⟩)) ∧ w'.cell? ⟨p, 0, none⟩ = some (.int .i64 at_) ∧ w'.cell? ⟨p, 1, none⟩ = some (.int .i64 no))
      (first | exact ⟨(Below.refl _ _).drew, q0, q1, q2⟩ | go_keep) (fail)
    have hb := (show Below w3.heap.size w3 w3.drew ∧ _ from by assumption).1
    have HB := Tre.hid hb
    clear hb
    go_wp2_with fail
    go_ret3
    refine .inr ⟨HD.out, at_, ?_, (HM3.out.quiet HB.out).below⟩
    rw [HN.out]
    rfl
end Go.Proofs.YtejajdebpibocaaGreatDoor.lex
namespace Go.Tre
def tokEq (a b c : Int) (x : ByteArray) (a' b' c' : Int) (x' : ByteArray) : Bool := decide (a = a') && decide (b = b') && decide (c = c') && decide (x.data.toList = x'.data.toList)
end Go.Tre
namespace Go.Proofs.YtejajdebpibocaaGreatDoor.lex
open Go.RowKit Go.Tre
theorem eqTok (a b c a' b' c' : Int) (x x' : ByteArray) (w : World) : (Op.equalIn 10000 29 (.agg (tokV a b c x)) (.agg (tokV a' b' c' x'))).run Tryz.prog w = .ok (tokEq a b c x a' b' c' x') w := by
  rw [show (10000 : Nat) = 9999 + 1 from rfl, Op.equalIn]
  simp only [Sem.run_bind, run_underlying Tryz.underlying29, Result.andThen_ok]
  go_simp
  unfold tokEq
  simp only [ByteArray.toList_eq]
  by_cases h1 : a = a' <;> by_cases h2 : b = b' <;> by_cases h3 : c = c' <;> by_cases h4 : x.data.toList = x'.data.toList <;> simp [h1, h2, h3, h4]
end Go.Proofs.YtejajdebpibocaaGreatDoor.lex
