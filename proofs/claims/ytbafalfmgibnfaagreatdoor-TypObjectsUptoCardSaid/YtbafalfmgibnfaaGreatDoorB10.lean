/- errors.As at the target '**lex.wrong': the model's entries for internal/reflectlite at the types that it meets (after the kit's worked example Toyas). errors.As, errors.as, errors.Join: the walks at '*lex.wrong' and at two errors that are joined. errors.as at two errors that are joined, the first of which is of the target's type. errors.As at whatever the lexer's errors are; errors.Join of two. (*lexer).next, whatever comes. lex.all: a text's tokens. Rows of tokens, as they are read. -/
import Derived.Test.YtbafalfmgibnfaaGreatDoorB00
import Derived.Test.YtbafalfmgibnfaaGreatDoorRows
import Derived.WalkKit
import Derived.LaidEql
import Derived.Stop.Asserts
import Derived.RowKitTokens
import Derived.Test.YtbafalfmgibnfaaGreatDoorB02
import Derived.Test.YtbafalfmgibnfaaGreatDoorB03
import Derived.Test.YtbafalfmgibnfaaGreatDoorB05
import Derived.Test.YtbafalfmgibnfaaGreatDoorB06
import Derived.Test.YtbafalfmgibnfaaGreatDoorB07
import Derived.Test.YtbafalfmgibnfaaGreatDoorB09
import Derived.Deep.LoopGhost
set_option linter.unusedVariables false
namespace Go.Tre
noncomputable def rtA (t : TypeId) : Addr := ⟨Go.Proofs.Tryz.prog.globals.size, t, none⟩
def ErrT (w : World) : Prop := w.cell? ⟨0, 0, none⟩ = some (.iface 129 (.agg #[.pointer (some (rtA 59))]))
theorem ErrT.below {w w' : World} (h : ErrT w) (hb : RowKit.Below w.heap.size w w') : ErrT w' := cell_below hb h
end Go.Tre
namespace Go.Proofs.YtbafalfmgibnfaaGreatDoor.errs
open Go.RowKit Go.Extern.Stop Go.Stop Go.Extern Go.Tre
abbrev PE : TypeId := 64
abbrev TE : TypeId := 62
abbrev TR : TypeId := 129
abbrev TV : TypeId := 98

theorem as_nil (t : Value) (w : World) :
  Calls Tryz.prog 19 #[.nilIface, t] w fun e w' => e = .returned (.bool false) ∧ w' = w := by
 go_enter Tryz.func19, Tryz.ntmps19
 go_wp2
 go_ret
 exact ⟨rfl, rfl⟩

theorem valueOfP (t : Addr) (w : World) : (ReflectliteValue.unpack (.iface 64 (.pointer (some t)))).run Tryz.prog w
  = .ok (.agg #[.pointer (some (rtA 64)), .pointer (some ⟨w.heap.size, 0, none⟩), .int .u64 150]) (w.alloc (.cells #[.pointer (some t)] 64)) := by kernel_rfl
theorem typeP (a : Addr) (w : World) : (ReflectliteValue.methodAny (ReflectliteValue.valueError "reflectlite.Value.Type" 0) (fun t _ _ _ => ReflectliteType.toType t) #[.agg #[.pointer (some (rtA 64)), .pointer (some a), .int .u64 150]]).run Tryz.prog w
  = .ok (.iface 129 (.agg #[.pointer (some (rtA 64))])) w := by kernel_rfl
theorem methodKind (n : Nat) (h : Value) (w : World) : (Go.method (n + 1) 129 (.agg #[h]) "Kind").run Tryz.prog w = .ok (149, h) w := by kernel_rfl
theorem kindP (w : World) : ((ReflectliteType.abiMethod fun t => (fun a : Nat => Value.int IntKind.u8 (a : Int)) <$> Rtype.kind t) #[.pointer (some (rtA 64))]).run Tryz.prog w = .ok (.int .u8 22) w := by kernel_rfl
theorem kindE (w : World) : ((ReflectliteType.abiMethod fun t => (fun a : Nat => Value.int IntKind.u8 (a : Int)) <$> Rtype.kind t) #[.pointer (some (rtA 62))]).run Tryz.prog w = .ok (.int .u8 22) w := by kernel_rfl
theorem rlm (z : Sem Value) (f : TypeId → Addr → Nat → Nat → Sem Value) (v : Value) :
  ReflectliteValue.method z f #[v] = (do match ← ReflectliteValue.parts v with | none => z | some (t, a, fl) => f t a fl (fl % 32)) := rfl
theorem partsP (a : Addr) (w : World) : (ReflectliteValue.parts (.agg #[.pointer (some (rtA 64)), .pointer (some a), .int .u64 150])).run Tryz.prog w = .ok (some (64, a, 150)) w := by kernel_rfl
theorem isNilP (a p : Addr) (W : World) (ha : W.cell? a = some (.pointer (some p))) :
  (ReflectliteValue.method (ReflectliteValue.valueError "reflectlite.Value.IsNil" 0) ReflectliteValue.isNil #[.agg #[.pointer (some (rtA 64)), .pointer (some a), .int .u64 150]]).run Tryz.prog W = .ok (.bool false) W := by
 rw [rlm]
 simp only [Sem.run_bind, partsP, Result.andThen]
 simp [ReflectliteValue.isNil, loadVar, isAgg, underlying, Tryz.underlying64, ha, Result.andThen]
theorem methodElem (n : Nat) (h : Value) (w : World) : (Go.method (n + 1) 129 (.agg #[h]) "Elem").run Tryz.prog w = .ok (162, .agg #[h]) w := by kernel_rfl
theorem methodImplements (n : Nat) (h : Value) (w : World) : (Go.method (n + 1) 129 (.agg #[h]) "Implements").run Tryz.prog w = .ok (163, .agg #[h]) w := by kernel_rfl
theorem methodAssignableTo (n : Nat) (h : Value) (w : World) : (Go.method (n + 1) 129 (.agg #[h]) "AssignableTo").run Tryz.prog w = .ok (160, .agg #[h]) w := by kernel_rfl
theorem elemP (w : World) : (ReflectliteType.method ReflectliteType.elem #[.agg #[.pointer (some (rtA 64))]]).run Tryz.prog w = .ok (.iface 129 (.agg #[.pointer (some (rtA 62))])) w := by kernel_rfl
theorem implementsE (w : World) : (ReflectliteType.relation "Implements" ReflectliteType.implements_ #[.agg #[.pointer (some (rtA 62))], .iface 129 (.agg #[.pointer (some (rtA 59))])]).run Tryz.prog w = .ok (.bool true) w := by kernel_rfl
theorem typeOfE (v : Value) (w : World) : (ReflectliteType.typeOf #[.iface 62 v]).run Tryz.prog w = .ok (.iface 129 (.agg #[.pointer (some (rtA 62))])) w := by kernel_rfl
theorem assignableE (w : World) : (ReflectliteType.relation "AssignableTo" ReflectliteType.assignableTo #[.agg #[.pointer (some (rtA 62))], .iface 129 (.agg #[.pointer (some (rtA 62))])]).run Tryz.prog w = .ok (.bool true) w := by kernel_rfl
theorem typeOfJ (v : Value) (w : World) : (ReflectliteType.typeOf #[.iface 156 v]).run Tryz.prog w = .ok (.iface 129 (.agg #[.pointer (some (rtA 156))])) w := by kernel_rfl
theorem assignableJ (w : World) : (ReflectliteType.relation "AssignableTo" ReflectliteType.assignableTo #[.agg #[.pointer (some (rtA 156))], .iface 129 (.agg #[.pointer (some (rtA 62))])]).run Tryz.prog w = .ok (.bool false) w := by kernel_rfl
theorem valueOfE (e : Addr) (w : World) : (ReflectliteValue.unpack (.iface 62 (.pointer (some e)))).run Tryz.prog w
  = .ok (.agg #[.pointer (some (rtA 62)), .pointer (some ⟨w.heap.size, 0, none⟩), .int .u64 150]) (w.alloc (.cells #[.pointer (some e)] 62)) := by kernel_rfl
theorem elemOfP (w : World) : (Rtype.elem? 64).run Tryz.prog w = .ok (some 62) w := by kernel_rfl
theorem mkE (p : Addr) (w : World) : (ReflectliteValue.mk 62 p ReflectliteValue.flagAddr).run Tryz.prog w = .ok (.agg #[.pointer (some (rtA 62)), .pointer (some p), .int .u64 406]) w := by kernel_rfl
theorem elemVP (a p : Addr) (W : World) (ha : W.cell? a = some (.pointer (some p))) :
  (ReflectliteValue.method (ReflectliteValue.valueError "reflectlite.Value.Elem" 0) ReflectliteValue.elem #[.agg #[.pointer (some (rtA 64)), .pointer (some a), .int .u64 150]]).run Tryz.prog W
   = .ok (.agg #[.pointer (some (rtA 62)), .pointer (some p), .int .u64 406]) W := by
 rw [rlm]
 simp only [Sem.run_bind, partsP, Result.andThen]
 simp [ReflectliteValue.elem, loadVar, isAgg, underlying, Tryz.underlying64, ha, Result.andThen, elemOfP, mkE]
theorem rls (v x : Value) : ReflectliteValue.set #[v, x] = (do
  let (some (dst, a, fl), some (src, b, _)) := (← ReflectliteValue.parts v, ← ReflectliteValue.parts x)
   | unsupported (.noEntry "extern/(internal/reflectlite.Value).Set.zeroValue")
  if fl / ReflectliteValue.flagAddr % 2 == 0 then unsupported (.noEntry "extern/(internal/reflectlite.Value).Set.unaddressable")
  let val ← loadVar src b
  if ← Rtype.directlyAssignable dst src then storeVar dst a val
  else if ← Rtype.implements dst src then
   if (← Rtype.kind src) == 20 then
    match val with
    | .nilIface => unsupported (.noEntry "extern/reflectlite: a nil value of one interface type handed on as a value of another")
    | _ => storeVar dst a val
   else storeVar dst a (.iface src val)
  else panicString ("reflectlite.Set: value of type " ++ (← Rtype.spelt src) ++ " is not assignable to type " ++ (← Rtype.spelt dst))
  pure (.tuple #[])) := rfl
theorem partsEa (a : Addr) (w : World) : (ReflectliteValue.parts (.agg #[.pointer (some (rtA 62)), .pointer (some a), .int .u64 406])).run Tryz.prog w = .ok (some (62, a, 406)) w := by kernel_rfl
theorem partsE (a : Addr) (w : World) : (ReflectliteValue.parts (.agg #[.pointer (some (rtA 62)), .pointer (some a), .int .u64 150])).run Tryz.prog w = .ok (some (62, a, 150)) w := by kernel_rfl
theorem directE (w : World) : (Rtype.directlyAssignable 62 62).run Tryz.prog w = .ok true w := by kernel_rfl
theorem setE (ta b e : Addr) (old : Value) (W : World) (hb : W.cell? b = some (.pointer (some e))) (ht : W.cell? ta = some old) (hf : W.frozen? ta = false) :
  (ReflectliteValue.set #[.agg #[.pointer (some (rtA 62)), .pointer (some ta), .int .u64 406], .agg #[.pointer (some (rtA 62)), .pointer (some b), .int .u64 150]]).run Tryz.prog W
   = .ok (.tuple #[]) (W.setCell ta (.pointer (some e))) := by
 rw [rls]
 simp only [Sem.run_bind, partsEa, partsE, Result.andThen]
 simp [ReflectliteValue.flagAddr, loadVar, isAgg, underlying, Tryz.underlying62, hb, Result.andThen, directE, storeVar, Value.cells, storeCells, Addr.add]
 rw [run_store Tryz.prog W ta _ _ (by rfl)]
 simp [ht, hf]
end Go.Proofs.YtbafalfmgibnfaaGreatDoor.errs
namespace Go.Proofs.YtbafalfmgibnfaaGreatDoor.errs
open Go.RowKit Go.Extern.Stop Go.Stop Go.Extern Go.Tre

/-! errors.As -/
set_option maxHeartbeats 4000000 in
theorem as1_hit (e t a : Addr) (old : Value) (w : World) (ht0 : w.cell? t = some old) (hf0 : w.frozen? t = false) (ha : w.cell? a = some (.pointer (some t))) :
  Calls Tryz.prog 37 #[.iface 62 (.pointer (some e)), .iface 64 (.pointer (some t)), .agg #[.pointer (some (rtA 64)), .pointer (some a), .int .u64 150], .iface 129 (.agg #[.pointer (some (rtA 62))])] w
   fun ev w' => ev = .returned (.bool true) ∧ w' = ((w.alloc (.cells #[.pointer (some (rtA 64)), .pointer (some a), .int .u64 150] 98)).alloc (.cells #[.pointer (some e)] 62)).setCell t (.pointer (some e)) := by
 have h6 := @run_callFunc_extern Tryz.prog 34 _ (fun args => ReflectliteValue.unpack (args.getD 0 (.tuple #[]))) Tryz.func34 (by kernel_rfl) (by kernel_rfl) (by kernel_rfl) (by kernel_rfl)
 have h10 := @run_callFunc_extern Tryz.prog 56 _ ReflectliteType.typeOf Tryz.func56 (by kernel_rfl) (by kernel_rfl) (by kernel_rfl) (by kernel_rfl)
 have h35 := @run_callFunc_extern Tryz.prog 160 _ (ReflectliteType.relation "AssignableTo" ReflectliteType.assignableTo) Tryz.func160 (by kernel_rfl) (by kernel_rfl) (by kernel_rfl) (by kernel_rfl)
 have h11 := @run_callFunc_extern Tryz.prog 57 _ (ReflectliteValue.method (ReflectliteValue.valueError "reflectlite.Value.Elem" 0) ReflectliteValue.elem) Tryz.func57 (by kernel_rfl) (by kernel_rfl) (by kernel_rfl) (by kernel_rfl)
 have h12 := @run_callFunc_extern Tryz.prog 58 _ ReflectliteValue.set Tryz.func58 (by kernel_rfl) (by kernel_rfl) (by kernel_rfl) (by kernel_rfl)
 have tO := typeOfE
 have mA := methodAssignableTo
 have a25 := assignableE
 have v25 := valueOfE
 have htl : t.block < w.heap.size := World.block_lt_of_cell? w t ht0
 have hal : a.block < w.heap.size := World.block_lt_of_cell? w a ha
 have el := elemVP a t (w.alloc (.cells #[.pointer (some (rtA 64)), .pointer (some a), .int .u64 150] 98)) (by rw [World.cell?_alloc_lt _ _ a hal]; exact ha)
 have st := setE t ⟨w.heap.size + 1, 0, none⟩ e old ((w.alloc (.cells #[.pointer (some (rtA 64)), .pointer (some a), .int .u64 150] 98)).alloc (.cells #[.pointer (some e)] 62))
  (by rw [World.cell?_alloc_at _ _ _ _ (by simp)]; rfl)
  (by rw [World.cell?_alloc_lt _ _ t (by simp; omega), World.cell?_alloc_lt _ _ t htl]; exact ht0)
  (by rw [World.frozen?_alloc_old _ _ t (by simp; omega), World.frozen?_alloc_old _ _ t (Nat.ne_of_lt htl)]; exact hf0)
 go_enter Tryz.func37, Tryz.ntmps37
 go_wp2
 refine wp_loop_rounds 1 ?_
 rw [rounds_succ]
 go_wp2
 go_ret
 exact ⟨rfl, rfl⟩
end Go.Proofs.YtbafalfmgibnfaaGreatDoor.errs
namespace Go.Proofs.YtbafalfmgibnfaaGreatDoor.errs
open Go.RowKit Go.Extern.Stop Go.Stop Go.Extern Go.Tre
theorem methodUnwrap (n : Nat) (h : Value) (w : World) : (Go.method (n + 1) 156 h "Unwrap").run Tryz.prog w = .ok (171, h) w := by kernel_rfl
theorem noAs (v : Value) (xT : TypeId) (w : World) : (Instr.typeAssert (.iface 156 v) xT 134 true).run Tryz.prog w = .ok (.tuple #[.nilIface, .bool false]) w := run_typeAssert_lacksB Tryz.underlying134 (by kernel_rfl) (by kernel_rfl) v xT w
theorem noUnwrap (v : Value) (xT : TypeId) (w : World) : (Instr.typeAssert (.iface 156 v) xT 137 true).run Tryz.prog w = .ok (.tuple #[.nilIface, .bool false]) w := run_typeAssert_lacksB Tryz.underlying137 (by kernel_rfl) (by kernel_rfl) v xT w
theorem hasUnwraps (v : Value) (xT : TypeId) (w : World) : (Instr.typeAssert (.iface 156 v) xT 138 true).run Tryz.prog w = .ok (.tuple #[.iface 156 v, .bool true]) w := run_typeAssert_hasB Tryz.underlying138 (by kernel_rfl) v xT w
theorem unwrap (q : Nat) (v : Value) (w : World) (hq : w.cell? ⟨q, 0, none⟩ = some v) :
  Calls Tryz.prog 171 #[.pointer (some ⟨q, 0, none⟩)] w fun e w' => e = .returned v ∧ w = w' := by
 go_enter Tryz.func171, Tryz.ntmps171
 go_wp2
 go_ret
 exact ⟨rfl, rfl⟩
set_option maxRecDepth 100000 in
set_option maxHeartbeats 4000000 in
theorem as1_join (p q r c : Nat) (x : Value) (t a : Addr) (old : Value) (w : World) (ht0 : w.cell? t = some old) (hf0 : w.frozen? t = false) (ha : w.cell? a = some (.pointer (some t)))
  (hq : w.cell? ⟨q, 0, none⟩ = some (.slice (some ⟨r, 0, none⟩) 2 c)) (hr : w.cell? ⟨r, 0, none⟩ = some (.iface 62 (.pointer (some ⟨p, 0, none⟩)))) :
  Calls Tryz.prog 37 #[.iface 156 (.pointer (some ⟨q, 0, none⟩)), .iface 64 (.pointer (some t)), .agg #[.pointer (some (rtA 64)), .pointer (some a), .int .u64 150], .iface 129 (.agg #[.pointer (some (rtA 62))])] w
   fun ev w' => ev = .returned (.bool true) ∧ w' = (((w.alloc (.cells #[.pointer (some (rtA 64)), .pointer (some a), .int .u64 150] 98)).alloc (.cells #[.pointer (some (rtA 64)), .pointer (some a), .int .u64 150] 98)).alloc (.cells #[.pointer (some ⟨p, 0, none⟩)] 62)).setCell t (.pointer (some ⟨p, 0, none⟩)) := by
 have h10 := @run_callFunc_extern Tryz.prog 56 _ ReflectliteType.typeOf Tryz.func56 (by kernel_rfl) (by kernel_rfl) (by kernel_rfl) (by kernel_rfl)
 have h35 := @run_callFunc_extern Tryz.prog 160 _ (ReflectliteType.relation "AssignableTo" ReflectliteType.assignableTo) Tryz.func160 (by kernel_rfl) (by kernel_rfl) (by kernel_rfl) (by kernel_rfl)
 have tO := typeOfJ
 have mA := methodAssignableTo
 have mU := methodUnwrap
 have na := noAs
 have nu := noUnwrap
 have nh := hasUnwraps
 have aJ := assignableJ
 go_enter Tryz.func37, Tryz.ntmps37
 go_wp2
 refine wp_loop_rounds 1 ?_
 rw [rounds_succ]
 go_wp2_with fail
 refine (unwrap q _ _ (by rw [World.cell?_alloc_lt _ _ _ (World.block_lt_of_cell? w _ hq)]; exact hq)).mono ?_
 rintro e w' ⟨rfl, rfl⟩
 have hr' : (w.alloc (.cells #[.pointer (some (rtA 64)), .pointer (some a), .int .u64 150] 98)).cell? ⟨r, 0, none⟩ = some (.iface 62 (.pointer (some ⟨p, 0, none⟩))) := by rw [World.cell?_alloc_lt _ _ _ (World.block_lt_of_cell? w _ hr)]; exact hr
 have ht' : (w.alloc (.cells #[.pointer (some (rtA 64)), .pointer (some a), .int .u64 150] 98)).cell? t = some old := by rw [World.cell?_alloc_lt _ _ _ (World.block_lt_of_cell? w _ ht0)]; exact ht0
 have hf' : (w.alloc (.cells #[.pointer (some (rtA 64)), .pointer (some a), .int .u64 150] 98)).frozen? t = false := by rw [World.frozen?_alloc_old _ _ t (Nat.ne_of_lt (World.block_lt_of_cell? w _ ht0))]; exact hf0
 have ha' : (w.alloc (.cells #[.pointer (some (rtA 64)), .pointer (some a), .int .u64 150] 98)).cell? a = some (.pointer (some t)) := by rw [World.cell?_alloc_lt _ _ _ (World.block_lt_of_cell? w _ ha)]; exact ha
 go_wp2_with fail
 refine wp_loop_rounds 1 ?_
 rw [rounds_succ]
 go_wp2_with fail
 refine (as1_hit ⟨p, 0, none⟩ t a old _ ht' hf' ha').mono ?_
 rintro e w' ⟨rfl, rfl⟩
 go_wp2_with fail
 go_ret
 exact ⟨rfl, rfl⟩
end Go.Proofs.YtbafalfmgibnfaaGreatDoor.errs
namespace Go.Proofs.YtbafalfmgibnfaaGreatDoor.errs
open Go.RowKit Go.Extern.Stop Go.Stop Go.Extern Go.Tre
set_option maxRecDepth 100000 in
set_option maxHeartbeats 4000000 in
theorem as_of (x : Value) (t : Addr) (old : Value) (w : World) (hx : x ≠ .nilIface) (hx' : ∃ tx vx, x = .iface tx vx) (hg : ErrT w) (ht0 : w.cell? t = some old) (hf0 : w.frozen? t = false) (p : Nat)
  (H : ∀ (a : Addr) (w1 : World), w1.cell? t = some old → w1.frozen? t = false → w1.cell? a = some (.pointer (some t)) → Below w.heap.size w w1 →
   Calls Tryz.prog 37 #[x, .iface 64 (.pointer (some t)), .agg #[.pointer (some (rtA 64)), .pointer (some a), .int .u64 150], .iface 129 (.agg #[.pointer (some (rtA 62))])] w1
    fun ev w' => ev = .returned (.bool true) ∧ ∃ w2, Below w1.heap.size w1 w2 ∧ w' = w2.setCell t (.pointer (some ⟨p, 0, none⟩))) :
  Calls Tryz.prog 19 #[x, .iface 64 (.pointer (some t))] w fun ev w' => ev = .returned (.bool true) ∧ ∃ w2, Below w.heap.size w w2 ∧ w' = w2.setCell t (.pointer (some ⟨p, 0, none⟩)) := by
 have h6 := @run_callFunc_extern Tryz.prog 34 _ (fun args => ReflectliteValue.unpack (args.getD 0 (.tuple #[]))) Tryz.func34 (by kernel_rfl) (by kernel_rfl) (by kernel_rfl) (by kernel_rfl)
 have h7 := @run_callFunc_extern Tryz.prog 35 _ (ReflectliteValue.methodAny (ReflectliteValue.valueError "reflectlite.Value.Type" 0) (fun t _ _ _ => ReflectliteType.toType t)) Tryz.func35 (by kernel_rfl) (by kernel_rfl) (by kernel_rfl) (by kernel_rfl)
 have h8 := @run_callFunc_extern Tryz.prog 36 _ (ReflectliteValue.method (ReflectliteValue.valueError "reflectlite.Value.IsNil" 0) ReflectliteValue.isNil) Tryz.func36 (by kernel_rfl) (by kernel_rfl) (by kernel_rfl) (by kernel_rfl)
 have h27 := @run_callFunc_extern Tryz.prog 149 _ (ReflectliteType.abiMethod fun t => do pure (.int .u8 (← Rtype.kind t))) Tryz.func149 (by kernel_rfl) (by kernel_rfl) (by kernel_rfl) (by kernel_rfl)
 have h37 := @run_callFunc_extern Tryz.prog 162 _ (ReflectliteType.method ReflectliteType.elem) Tryz.func162 (by kernel_rfl) (by kernel_rfl) (by kernel_rfl) (by kernel_rfl)
 have h38 := @run_callFunc_extern Tryz.prog 163 _ (ReflectliteType.relation "Implements" ReflectliteType.implements_) Tryz.func163 (by kernel_rfl) (by kernel_rfl) (by kernel_rfl) (by kernel_rfl)
 have f6 := valueOfP
 have f7 := typeP
 have mK := methodKind
 have mE := methodElem
 have mI := methodImplements
 have k27 := kindP
 have k25 := kindE
 have e27 := elemP
 have i25 := implementsE
 have htl : t.block < w.heap.size := World.block_lt_of_cell? w t ht0
 have n8 := isNilP ⟨w.heap.size, 0, none⟩ t ((w.alloc (.cells #[.pointer (some t)] 64)).alloc (.cells #[.pointer (some (rtA 64)), .pointer (some ⟨w.heap.size, 0, none⟩), .int .u64 150] 98)) (by simp)
 have hlt : 0 < w.heap.size := World.block_lt_of_cell? w _ hg
 have hg2 : ((w.alloc (.cells #[.pointer (some t)] 64)).alloc (.cells #[.pointer (some (rtA 64)), .pointer (some ⟨w.heap.size, 0, none⟩), .int .u64 150] 98)).cell? ⟨0, 0, none⟩ = some (.iface 129 (.agg #[.pointer (some (rtA 59))])) := by
  rw [World.cell?_alloc_lt _ _ ⟨0, 0, none⟩ (by simp; try omega), World.cell?_alloc_lt _ _ ⟨0, 0, none⟩ hlt]; exact hg
 have H1 := H ⟨w.heap.size, 0, none⟩ ((w.alloc (.cells #[.pointer (some t)] 64)).alloc (.cells #[.pointer (some (rtA 64)), .pointer (some ⟨w.heap.size, 0, none⟩), .int .u64 150] 98))
  (by rw [World.cell?_alloc_lt _ _ t (by simp; omega), World.cell?_alloc_lt _ _ t htl]; exact ht0)
  (by rw [World.frozen?_alloc_old _ _ t (by simp; omega), World.frozen?_alloc_old _ _ t (Nat.ne_of_lt htl)]; exact hf0)
  (by rw [World.cell?_alloc_lt _ _ ⟨w.heap.size, 0, none⟩ (by simp), World.cell?_alloc_at _ _ _ _ (by simp)]; rfl)
  (((Below.refl _ _).alloc (Nat.le_refl _) _).alloc (by simp) _)
 have HH := Tre.hid H1
 have HHT := Tre.hid hg
 clear H1 H hg
 obtain ⟨tx, vx, rfl⟩ := hx'
 clear hx
 go_enter Tryz.func19, Tryz.ntmps19
 go_wp2_with fail
 refine HH.out.mono ?_
 rintro e w' ⟨rfl, w2, hb, rfl⟩
 have HB := Tre.hid hb
 clear hb
 go_wp2_with fail
 go_ret
 exact ⟨rfl, w2, (((Below.refl _ w).alloc (Nat.le_refl _) _).alloc (by simp) _).trans (HB.out.mono (by simp; omega)), rfl⟩
theorem as_any (v : Value) (bs : List Nat) (at_ no : Nat) (t : Addr) (old : Value) (w : World) (hE : ErrIn w bs v at_ no) (hg : ErrT w) (ht0 : w.cell? t = some old) (hf0 : w.frozen? t = false) :
  Calls Tryz.prog 19 #[v, .iface 64 (.pointer (some t))] w fun ev w' => ev = .returned (.bool true) ∧ ∃ p w2, Below w.heap.size w w2 ∧ w.heap[p]? = some (.cells #[.int .i64 at_, .int .i64 no] 66 (0, 0)) ∧ w' = w2.setCell t (.pointer (some ⟨p, 0, none⟩)) := by
 rcases hE with ⟨p, rfl, rfl, h1⟩ | ⟨p, q, r, tq, x, c, rfl, rfl, h1, h2, ⟨t', cs, fz, h3, h4, h4'⟩, h5⟩
 ·refine (as_of _ t old w (by intro h; cases h) ⟨_, _, rfl⟩ hg ht0 hf0 p ?_).mono ?_
  ·intro a w1 c1 c2 c3 hb
   refine (as1_hit ⟨p, 0, none⟩ t a old w1 c1 c2 c3).mono ?_
   rintro e w' ⟨rfl, rfl⟩
   exact ⟨rfl, _, ((Below.refl _ w1).alloc (Nat.le_refl _) _).alloc (by simp) _, rfl⟩
  ·rintro e w' ⟨rfl, w2, hb, rfl⟩
   exact ⟨rfl, p, w2, hb, h1, rfl⟩
 ·refine (as_of _ t old w (by intro h; cases h) ⟨_, _, rfl⟩ hg ht0 hf0 p ?_).mono ?_
  ·intro a w1 c1 c2 c3 hb
   refine (as1_join p q r c x t a old w1 c1 c2 c3 ?_ ?_).mono ?_
   ·exact cell_below hb (by simp [World.cell?, h2])
   ·exact cell_below hb (by simp [World.cell?, h3, h4])
   ·rintro e w' ⟨rfl, rfl⟩
    exact ⟨rfl, _, (((Below.refl _ w1).alloc (Nat.le_refl _) _).alloc (by simp) _).alloc (by simp; omega) _, rfl⟩
  ·rintro e w' ⟨rfl, w2, hb, rfl⟩
   exact ⟨rfl, p, w2, hb, h1, rfl⟩
end Go.Proofs.YtbafalfmgibnfaaGreatDoor.errs
namespace Go.Tre
structure LexEnv (w : World) : Prop where
 max : MaxAt w
 sp : SpaceAt w
 rg : Go.Proofs.YtbafalfmgibnfaaGreatDoor.lex.RangeAt w
 et : ErrT w
theorem LexEnv.below {w w' : World} (h : LexEnv w) (hb : RowKit.Below w.heap.size w w') : LexEnv w' := ⟨h.max.below hb, h.sp.below hb, h.rg.below hb, h.et.below hb⟩
end Go.Tre
namespace Go.Proofs.YtbafalfmgibnfaaGreatDoor.lex
open Go.RowKit Go.Tre
theorem next (w0 : World) (rs : List Res) (b : Nat) (s x : ByteArray) (k : Nat) (w : World) (h : Mem w0 w (lexR b s k :: rs)) (hk : k ≤ s.size) (hs : s.size ≤ 4194304) (hx : x.data.toList = s.data.toList.drop k) (h0 : 0 < x.size) (E : LexEnv w0) :
  Calls Tryz.prog 33 #[.pointer (some ⟨b, 0, none⟩)] w (NextPost w0 rs b s k (nextS x.data.toList)) := by
 by_cases h1 : 100 < wordLen x
 ·exact next_word_long w0 rs b s x k w h hk hs hx E.max h1
 ·by_cases h2 : 0 < wordLen x
  ·exact next_word_short w0 rs b s x k w h hk hs hx E.max ⟨h2, by omega⟩
  ·have hw : wordLen x = 0 := by omega
   by_cases h39 : x[0] = 39
   ·by_cases h3 : wordLen (x.extract 1 x.size) = 0
    ·exact next_tick_none w0 rs b s x k w h hk hs hx E.max h0 hw h39 h3
    ·by_cases h4 : 100 < wordLen (x.extract 1 x.size)
     ·exact next_tick_long w0 rs b s x k w h hk hs hx E.max h0 hw h39 h4
     ·exact next_tick_some w0 rs b s x k w h hk hs hx E.max h0 hw h39 (by omega) (by omega)
   ·by_cases h34 : x[0] = 34
    ·cases hq : quotedS (x.extract 1 x.size).data.toList with
     | none => exact next_quote_none w0 rs b s x k w h hk hs hx E.max h0 hw h34 hq
     | some p => exact next_quote_some w0 rs b s x k w h hk hs hx E.max h0 hw h34 p hq
    ·by_cases h5 : (x[0].toNat : Int) < 48
     ·exact next_sym_lo w0 rs b s x k w h hk hs hx E.max h0 hw E.sp h39 h34 h5
     ·by_cases h6 : 57 < (x[0].toNat : Int)
      ·exact next_sym_hi w0 rs b s x k w h hk hs hx E.max h0 hw E.sp h39 h34 h6
      ·by_cases h7 : digitsVal (x.data.toList.takeWhile isDig) ≤ 9223372036854775807
       ·exact next_num_ok w0 rs b s x k w h hk hs hx E.max h0 hw (by omega) (by omega) h7
       ·exact next_num_no w0 rs b s x k w h hk hs hx E.max h0 hw E.rg (by omega) (by omega) h7
end Go.Proofs.YtbafalfmgibnfaaGreatDoor.lex
namespace Go.Tre
open Go.RowKit
def tokCells (t : Tok) : List Value := [.int .i64 t.kind, .int .i64 t.at_, .int .i64 t.n, .string ⟨t.s.toArray⟩]
theorem tokCells_len (ts : List Tok) : (ts.flatMap tokCells).length = ts.length * 4 := by
 induction ts with
 | nil => rfl
 | cons t r ih => rw [List.flatMap_cons, List.length_append, ih, List.length_cons]; simp [tokCells]; omega
abbrev toksR (v : Value) (ts : List Tok) : Res := rowR 92 4 v ts.length (ts.flatMap tokCells)
def AllPost (w : World) (s : ByteArray) (D : Option (List Tok)) (e : Ending) (w' : World) : Prop :=
 (∃ ts v, D = some ts ∧ e = .returned (.tuple #[v, .nilIface]) ∧ Mem w w' [toksR v ts]) ∨
 (D = none ∧ ∃ v bs, ∃ at_ : Nat, e = .returned (.tuple #[.slice none 0 0, v]) ∧ Mem w w' [errR bs v at_ (if s.size ≤ 65536 then 5 else 3)])
theorem errIface {w : World} {bs : List Nat} {v : Value} {a no : Nat} (h : ErrIn w bs v a no) : ∃ te ve, v = .iface te ve := by
 rcases h with ⟨p, _, rfl, _⟩ | ⟨p, q, r, t, x, c, _, rfl, _⟩
 ·exact ⟨_, _, rfl⟩
 ·exact ⟨_, _, rfl⟩
theorem lexS_none_long {s : ByteArray} (h : ¬ s.size ≤ 65536) : lexS s.data.toList = none := by
 unfold lexS
 rw [if_neg (by exact h)]
theorem lexS_short {s : ByteArray} (h : s.size ≤ 65536) : lexS s.data.toList = allS s.size s.data.toList := by
 unfold lexS
 rw [if_pos (by exact h)]
 rfl
end Go.Tre
namespace Go.Proofs.YtbafalfmgibnfaaGreatDoor.lex
open Go.RowKit Go.Tre
theorem infoTok : (Tryz.prog.info? 92).map (fun i => (i.zero, i.size, i.bytes)) = some (some (.agg (tokV 0 0 0 ⟨#[]⟩)), 4, 40) := by kernel_rfl
set_option maxRecDepth 100000 in
set_option maxHeartbeats 8000000 in
theorem all (s : ByteArray) (w : World) (hs : s.size ≤ 4194304) (E : LexEnv w) :
  Calls Tryz.prog 18 #[.string s] w (AllPost w s (lexS s.data.toList)) := by
 by_cases h6 : s.size ≤ 65536
 ·obtain ⟨ti, T1, T2, T3, T4⟩ := info_parts infoTok
  have K2 := Tre.hid T2
  have K3 := Tre.hid T3
  have K4 := Tre.hid T4
  have HE := Tre.hid E
  obtain ⟨D, hD⟩ : ∃ D, Hid (allS s.size s.data.toList = D) := ⟨_, rfl⟩
  rw [lexS_short h6, hD.out]
  have HM0 := Tre.hid (((Mem.nil w).addNil 92 4).allocR #[.string s, .int .i64 0] 89)
  clear E T2 T3 T4
  go_enter Tryz.func18, Tryz.ntmps18
  go_wp2_with fail
  go_loopg [5] (s.size) (fun gk v5 wr => ∃ (u5 : Value) (k : Nat) (ts : List Tok), v5 = u5 ∧ Hid (D = (allS s.size (s.data.toList.drop k)).map (ts ++ ·) ∧ gk = s.size - k) ∧ k ≤ s.size ∧ ts.length ≤ k ∧ Hid (Mem w wr [lexR w.heap.size s k, toksR u5 ts]))
  case atStart => exact ⟨_, 0, [], rfl, ⟨by rw [← hD.out]; simp, rfl⟩, Nat.zero_le _, Nat.le_refl _, HM0.out⟩
  case round =>
   obtain ⟨u5, k, ts, rfl, hI, hk, htk, HM⟩ := hrel
   go_wp2_with fail
   refine (skip w _ w.heap.size s k wr HM.out hk hs HE.out.max).mono ?_
   intro e w' hp
   rcases hp with ⟨k', hk', hSK, rfl, M⟩ | ⟨hSK, v, bs, k', hk', rfl, M⟩
   ·have HMa := Tre.hid M
    have HSK := Tre.hid hSK
    clear M hSK HM
    obtain ⟨x, hx⟩ : ∃ x : ByteArray, Hid (x.data.toList = s.data.toList.drop k') := ⟨s.extract k' s.size, extract_list s k'⟩
    have hxs : Hid (x.size = s.size - k') := by
     have := congrArg List.length hx.out
     show _ = _
     simpa using this
    have hkk : k ≤ k' := by
     have h1 := skipS_len HSK.out
     simp at h1
     omega
    go_wp2_with fail
    refine (rest_is w.heap.size s k' x _ (lexAt HMa.out 0 rfl) hk' (by omega) hx.out).mono ?_
    rintro e w2 ⟨rfl, mq⟩
    have HMb := Tre.hid (HMa.out.quiet mq)
    clear mq HMa
    by_cases hx0 : x.size = 0
    ·have e0 := emp1 hx0
     have e1 : (!x.toList.isEmpty) = false := by rw [e0]; rfl
     have hkN : Hid (k' = s.size) := by show _ = _; have := hxs.out; omega
     have HD : Hid (D = some (ts ++ [⟨0, s.size, 0, []⟩])) := by
      show _ = _
      have hd : s.data.toList.drop k' = [] := by rw [← hx.out]; exact toList_empty.2 hx0
      rw [hI.out.1, allS_eq, HSK.out, hd]; rfl
     obtain ⟨a5, c5, rfl, _⟩ := HMb.out.val 1 rfl
     obtain ⟨l0, l1⟩ := HMb.out.two 0 rfl
     have MB := Tre.hid (HMb.out.allocRow #[.int .i64 0, .int .i64 (k' : Int), .int .i64 0, .string ⟨#[]⟩] 92 4 1 (by unfold maxLen; omega) rfl)
     clear hx0
     go_wp2_with (at_builtin; refine wpList_append_row _ rfl _ _ 34 rfl 92 ti _ 4 40 Tryz.underlying34 T1 K2.out K3.out K4.out rfl (by omega) (.slice a5 ts.length c5) ts.length (ts.flatMap tokCells) rfl (MB.out.row 2 rfl) (some ⟨w2.heap.size, 0, none⟩) 1 1 [.int .i64 0, .int .i64 (k' : Int), .int .i64 0, .string ⟨#[]⟩] rfl ⟨rfl, fun j u hj => ⟨_, 0, rfl, by rw [Nat.zero_add]; exact MB.out.cellAt 0 rfl j hj⟩⟩ (by simp [Value.oneCell']) (by unfold maxLen; omega) (by omega) ?_; intro v9 w9 hown9 hgrow9 hat9; have M9 := MB.out.grow 2 rfl hgrow9 hown9 hat9; obtain ⟨a9, c9, rfl, _⟩ := M9.val 2 rfl; have HM9 := Tre.hid M9; clear M9 hown9 hgrow9 hat9)
     go_ret2
     refine .inl ⟨ts ++ [⟨0, s.size, 0, []⟩], .slice a9 (ts.length + 1) c9, HD.out, rfl, ?_⟩
     have h := (HM9.out.del 0).del 0
     rw [hkN.out] at h
     show Mem _ _ [rowR _ _ _ _ _]
     rw [List.length_append, List.length_singleton, List.flatMap_append]
     exact h
    ·have e0 := emp0 hx0
     have e1 : (!x.toList.isEmpty) = true := by rw [e0]; rfl
     have hx1 : 0 < x.size := by omega
     obtain ⟨c, r, hcr⟩ : ∃ c r, Hid (s.data.toList.drop k' = c :: r) := by
      cases hdr : s.data.toList.drop k' with
      | nil => exact absurd (toList_empty.1 (hx.out.trans hdr)) hx0
      | cons c r => exact ⟨c, r, rfl⟩
     clear hx0
     go_wp2_with fail
     refine (next w _ w.heap.size s x k' _ HMb.out hk' hs hx.out hx1 HE.out).mono ?_
     intro e w3 hp
     rcases hp with ⟨t, n, y, hN, hy, rfl, M⟩ | ⟨hN, ka, kb, kc, y, mv, v, bs, rfl, M⟩
     ·have hnl := nextS_len hN
      have hnx : 1 ≤ n ∧ k' + n ≤ s.size := by
       have h1 : x.data.toList.length = x.size := rfl
       have h2 := hxs.out
       omega
      have hn1 := hnx.1
      have hn2 := hnx.2
      have HD : Hid (D = (allS s.size (s.data.toList.drop (k' + n))).map ((ts ++ [{ t with at_ := k' }]) ++ ·)) := by
       show _ = _
       rw [hx.out, hcr.out] at hN
       have hl : s.size - (c :: r).length = k' := by
        rw [← hcr.out]; simp; omega
       rw [hI.out.1, allS_eq, HSK.out, hcr.out]
       simp only
       rw [hN]
       simp only
       rw [hl, ← hcr.out, List.drop_drop]
       cases allS s.size (s.data.toList.drop (k' + n)) <;> simp
      have HY : Hid (y = ⟨t.s.toArray⟩) := data_inj' (by rw [hy])
      obtain ⟨a5, c5, rfl, _⟩ := M.val 1 rfl
      have MA := M.allocR #[.int .i64 (t.kind : Int), .int .i64 (k' : Int), .int .i64 t.n, .string y] 92
      have HMA := Tre.hid MA
      have hw3 : w.heap.size < w3.heap.size := by have := (Array.getElem?_eq_some_iff.1 (M.heap 0 rfl)).1; exact this
      have MB' := MA.allocRow #[.int .i64 (t.kind : Int), .int .i64 (k' : Int), .int .i64 t.n, .string y] 92 4 1 (by unfold maxLen; omega) rfl
      rw [World.size_alloc] at MB'
      have MB := Tre.hid MB'
      clear hnl hnx hN hy M MA MB' HMb
      go_wp2_with (at_builtin; refine wpList_append_row _ rfl _ _ 34 rfl 92 ti _ 4 40 Tryz.underlying34 T1 K2.out K3.out K4.out rfl (by omega) (.slice a5 ts.length c5) ts.length (ts.flatMap tokCells) rfl (MB.out.row 3 rfl) (some ⟨w3.heap.size + 1, 0, none⟩) 1 1 [.int .i64 (t.kind : Int), .int .i64 (k' : Int), .int .i64 t.n, .string y] rfl ⟨rfl, fun j u hj => ⟨_, 0, rfl, by rw [Nat.zero_add]; exact MB.out.cellAt 0 rfl j hj⟩⟩ (by simp [Value.oneCell']) (by unfold maxLen; omega) (by omega) ?_; intro v9 w9 hown9 hgrow9 hat9; have M9 := MB.out.grow 3 rfl hgrow9 hown9 hat9; obtain ⟨a9, c9, rfl, _⟩ := M9.val 3 rfl; obtain ⟨l0, l1⟩ := M9.two 2 rfl; have f1 := M9.free 2 rfl 1; have HM9 := Tre.hid M9; clear M9 hown9 hgrow9 hat9)
      have M10 := (HM9.out.setCell 2 rfl 1 (.int .i64 ((k' : Int) + (n : Int)))).del 0
      have M11 := M10.del 0
      go_roundg (s.size - (k' + n))
      case measure => have h1 := hI.out.2; rw [h1]; omega
      case rel =>
       refine ⟨.slice a9 (ts.length + 1) c9, k' + n, ts ++ [{ t with at_ := k' }], rfl, ⟨HD.out, rfl⟩, hn2, by simp; omega, ?_⟩
       show Mem _ _ [_, rowR _ _ _ _ _]
       rw [List.length_append, List.length_singleton, List.flatMap_append]
       rw [HY.out, show ((k' : Int) + (n : Int)) = ((k' + n : Nat) : Int) by omega] at M11
       exact M11
     ·have HD : Hid (D = none) := by
       show _ = _
       rw [hx.out, hcr.out] at hN
       rw [hI.out.1, allS_eq, HSK.out, hcr.out]
       simp only
       rw [hN]; rfl
      obtain ⟨te, ve, rfl⟩ := errIface (M.at_ 0 rfl)
      have HM3 := Tre.hid M
      clear M hN HMb
      go_wp2_with fail
      go_ret2
      refine .inr ⟨HD.out, _, bs, k', rfl, ?_⟩
      rw [if_pos h6]
      exact ((HM3.out.alloc _).del 1).del 1
   ·have HD : Hid (D = none) := by
     show _ = _
     rw [hI.out.1, allS_eq, hSK]; rfl
    obtain ⟨te, ve, rfl⟩ := errIface (M.at_ 0 rfl)
    have HM3 := Tre.hid M
    clear M hSK HM
    go_wp2_with fail
    go_ret2
    refine .inr ⟨HD.out, _, bs, k', rfl, ?_⟩
    rw [if_pos h6]
    exact (HM3.out.del 1).del 1
 ·have HL := Tre.hid (lexS_none_long h6)
  have H7 := Tre.hid h6
  have h8 : 65536 < s.size := by omega
  clear h6
  go_enter Tryz.func18, Tryz.ntmps18
  go_wp2_with fail
  go_ret2
  refine .inr ⟨HL.out, _, [w.heap.size], 0, rfl, ?_⟩
  rw [if_neg H7.out]
  exact ((Mem.nil w).allocR #[.int .i64 0, .int .i64 3] 66).as_ 0 rfl _ (fun hp => .inl ⟨_, rfl, rfl, hp⟩) (fun b hb => List.mem_singleton.1 hb)
end Go.Proofs.YtbafalfmgibnfaaGreatDoor.lex
namespace Go.Tre
open Go.RowKit
abbrev ToksAt (w : World) (a : Option Addr) (ts : List Tok) : Prop := Row w 4 a ts.length (ts.flatMap tokCells)
theorem ToksAt.tok {w : World} {a : Option Addr} {ts : List Tok} (h : ToksAt w a ts) {i : Nat} {t : Tok} (hi : ts[i]? = some t) :
  ∃ b off, a = some ⟨b, off, none⟩ ∧ w.cell? ⟨b, off + i * 4, none⟩ = some (.int .i64 t.kind) ∧ w.cell? ⟨b, off + i * 4 + 1, none⟩ = some (.int .i64 t.at_) ∧ w.cell? ⟨b, off + i * 4 + 2, none⟩ = some (.int .i64 t.n) ∧ w.cell? ⟨b, off + i * 4 + 3, none⟩ = some (.string ⟨t.s.toArray⟩) := by
 have key : ∀ (ts : List Tok) (i : Nat) (j : Nat), j < 4 → ts[i]? = some t → (ts.flatMap tokCells)[i * 4 + j]? = (tokCells t)[j]? := by
  intro ts
  induction ts with
  | nil => intro i j _ h; simp at h
  | cons u r ih =>
   intro i j hj h
   cases i with
   | zero =>
    simp at h
    subst h
    rw [List.flatMap_cons, Nat.zero_mul, Nat.zero_add, List.getElem?_append_left (by simp [tokCells]; omega)]
   | succ i =>
    simp at h
    rw [List.flatMap_cons, List.getElem?_append_right (by simp [tokCells]; omega)]
    rw [show (i + 1) * 4 + j - (tokCells u).length = i * 4 + j by simp [tokCells]; omega]
    exact ih i j hj h
 obtain ⟨b, off, e, h0⟩ := h.at_ (i * 4 + 0) _ (key ts i 0 (by omega) hi)
 subst e
 obtain ⟨_, _, e, h1⟩ := h.at_ (i * 4 + 1) _ (key ts i 1 (by omega) hi); cases e
 obtain ⟨_, _, e, h2⟩ := h.at_ (i * 4 + 2) _ (key ts i 2 (by omega) hi); cases e
 obtain ⟨_, _, e, h3⟩ := h.at_ (i * 4 + 3) _ (key ts i 3 (by omega) hi); cases e
 exact ⟨b, off, rfl, h0, h1, h2, h3⟩
theorem ToksAt.below {w w' : World} {a : Option Addr} {ts : List Tok} (h : ToksAt w a ts) (hb : Below w.heap.size w w') : ToksAt w' a ts := Row.below h hb
theorem toks_of {w0 w : World} {rs : List Res} {a : Option Addr} {ts : List Tok} {n c : Nat} (h : Mem w0 w rs) (i : Nat) (hi : rs[i]? = some (rowR 92 4 (.slice a n c) n (ts.flatMap tokCells))) (hn : n = ts.length) : ToksAt w a ts := by
 subst hn
 refine ⟨tokCells_len ts, fun j u hu => ?_⟩
 obtain ⟨g, rfl, _, _, hc⟩ := h.getRow i hi j hu
 exact ⟨g, 0, rfl, by rw [Nat.zero_add]; exact hc⟩
theorem ToksAt.take {w : World} {a : Option Addr} {ts : List Tok} (h : ToksAt w a ts) (k : Nat) : ToksAt w a (ts.take k) := by
 refine ⟨tokCells_len _, fun j u hu => ?_⟩
 refine h.at_ j u ?_
 have e : ts = ts.take k ++ ts.drop k := (List.take_append_drop k ts).symm
 rw [e, List.flatMap_append, List.getElem?_append_left (List.getElem?_eq_some_iff.1 hu).1]
 exact hu
end Go.Tre
