/- errors.As at the target '**typ.wrong', at an error that joins typ.formless and it. typ.Parse, where the parser gave up. typ.Parse, where what it comes to is too deep. typ.Parse at an object of one type under many names. -/
import Derived.Test.YtbafalfmgibnfaaGreatDoorB10
import Derived.Test.YtbafalfmgibnfaaGreatDoorB25
import Derived.Test.YtbafalfmgibnfaaGreatDoorB20
import Derived.Test.YtbafalfmgibnfaaGreatDoorB27
set_option linter.unusedVariables false
namespace Go.Proofs.YtbafalfmgibnfaaGreatDoor.asw
open Go.RowKit Go.Extern.Stop Go.Stop Go.Extern Go.Tre
open Go.Proofs.YtbafalfmgibnfaaGreatDoor.errs (rlm rls methodKind methodElem methodImplements methodAssignableTo typeOfJ methodUnwrap noAs noUnwrap hasUnwraps unwrap)
open Go.Proofs.YtbafalfmgibnfaaGreatDoor.typ (vForm vJoin vWrong)
theorem valueOfP (t : Addr) (w : World) : (ReflectliteValue.unpack (.iface 74 (.pointer (some t)))).run Tryz.prog w
  = .ok (.agg #[.pointer (some (rtA 74)), .pointer (some ⟨w.heap.size, 0, none⟩), .int .u64 150]) (w.alloc (.cells #[.pointer (some t)] 74)) := by kernel_rfl
theorem typeP (a : Addr) (w : World) : (ReflectliteValue.methodAny (ReflectliteValue.valueError "reflectlite.Value.Type" 0) (fun t _ _ _ => ReflectliteType.toType t) #[.agg #[.pointer (some (rtA 74)), .pointer (some a), .int .u64 150]]).run Tryz.prog w
  = .ok (.iface 129 (.agg #[.pointer (some (rtA 74))])) w := by kernel_rfl
theorem kindP (w : World) : ((ReflectliteType.abiMethod fun t => (fun a : Nat => Value.int IntKind.u8 (a : Int)) <$> Rtype.kind t) #[.pointer (some (rtA 74))]).run Tryz.prog w = .ok (.int .u8 22) w := by kernel_rfl
theorem kindE (w : World) : ((ReflectliteType.abiMethod fun t => (fun a : Nat => Value.int IntKind.u8 (a : Int)) <$> Rtype.kind t) #[.pointer (some (rtA 73))]).run Tryz.prog w = .ok (.int .u8 22) w := by kernel_rfl
theorem partsP (a : Addr) (w : World) : (ReflectliteValue.parts (.agg #[.pointer (some (rtA 74)), .pointer (some a), .int .u64 150])).run Tryz.prog w = .ok (some (74, a, 150)) w := by kernel_rfl
theorem isNilP (a p : Addr) (W : World) (ha : W.cell? a = some (.pointer (some p))) :
  (ReflectliteValue.method (ReflectliteValue.valueError "reflectlite.Value.IsNil" 0) ReflectliteValue.isNil #[.agg #[.pointer (some (rtA 74)), .pointer (some a), .int .u64 150]]).run Tryz.prog W = .ok (.bool false) W := by
 rw [rlm]
 simp only [Sem.run_bind, partsP, Result.andThen]
 simp [ReflectliteValue.isNil, loadVar, isAgg, underlying, Tryz.underlying74, ha, Result.andThen]
theorem elemP (w : World) : (ReflectliteType.method ReflectliteType.elem #[.agg #[.pointer (some (rtA 74))]]).run Tryz.prog w = .ok (.iface 129 (.agg #[.pointer (some (rtA 73))])) w := by kernel_rfl
theorem implementsE (w : World) : (ReflectliteType.relation "Implements" ReflectliteType.implements_ #[.agg #[.pointer (some (rtA 73))], .iface 129 (.agg #[.pointer (some (rtA 59))])]).run Tryz.prog w = .ok (.bool true) w := by kernel_rfl
theorem typeOfE (v : Value) (w : World) : (ReflectliteType.typeOf #[.iface 73 v]).run Tryz.prog w = .ok (.iface 129 (.agg #[.pointer (some (rtA 73))])) w := by kernel_rfl
theorem assignableE (w : World) : (ReflectliteType.relation "AssignableTo" ReflectliteType.assignableTo #[.agg #[.pointer (some (rtA 73))], .iface 129 (.agg #[.pointer (some (rtA 73))])]).run Tryz.prog w = .ok (.bool true) w := by kernel_rfl
theorem assignableJ (w : World) : (ReflectliteType.relation "AssignableTo" ReflectliteType.assignableTo #[.agg #[.pointer (some (rtA 156))], .iface 129 (.agg #[.pointer (some (rtA 73))])]).run Tryz.prog w = .ok (.bool false) w := by kernel_rfl
theorem valueOfE (e : Addr) (w : World) : (ReflectliteValue.unpack (.iface 73 (.pointer (some e)))).run Tryz.prog w
  = .ok (.agg #[.pointer (some (rtA 73)), .pointer (some ⟨w.heap.size, 0, none⟩), .int .u64 150]) (w.alloc (.cells #[.pointer (some e)] 73)) := by kernel_rfl
theorem elemOfP (w : World) : (Rtype.elem? 74).run Tryz.prog w = .ok (some 73) w := by kernel_rfl
theorem mkE (p : Addr) (w : World) : (ReflectliteValue.mk 73 p ReflectliteValue.flagAddr).run Tryz.prog w = .ok (.agg #[.pointer (some (rtA 73)), .pointer (some p), .int .u64 406]) w := by kernel_rfl
theorem elemVP (a p : Addr) (W : World) (ha : W.cell? a = some (.pointer (some p))) :
  (ReflectliteValue.method (ReflectliteValue.valueError "reflectlite.Value.Elem" 0) ReflectliteValue.elem #[.agg #[.pointer (some (rtA 74)), .pointer (some a), .int .u64 150]]).run Tryz.prog W
   = .ok (.agg #[.pointer (some (rtA 73)), .pointer (some p), .int .u64 406]) W := by
 rw [rlm]
 simp only [Sem.run_bind, partsP, Result.andThen]
 simp [ReflectliteValue.elem, loadVar, isAgg, underlying, Tryz.underlying74, ha, Result.andThen, elemOfP, mkE]
theorem partsEa (a : Addr) (w : World) : (ReflectliteValue.parts (.agg #[.pointer (some (rtA 73)), .pointer (some a), .int .u64 406])).run Tryz.prog w = .ok (some (73, a, 406)) w := by kernel_rfl
theorem partsE (a : Addr) (w : World) : (ReflectliteValue.parts (.agg #[.pointer (some (rtA 73)), .pointer (some a), .int .u64 150])).run Tryz.prog w = .ok (some (73, a, 150)) w := by kernel_rfl
theorem directE (w : World) : (Rtype.directlyAssignable 73 73).run Tryz.prog w = .ok true w := by kernel_rfl
theorem setE (ta b e : Addr) (old : Value) (W : World) (hb : W.cell? b = some (.pointer (some e))) (ht : W.cell? ta = some old) (hf : W.frozen? ta = false) :
  (ReflectliteValue.set #[.agg #[.pointer (some (rtA 73)), .pointer (some ta), .int .u64 406], .agg #[.pointer (some (rtA 73)), .pointer (some b), .int .u64 150]]).run Tryz.prog W
   = .ok (.tuple #[]) (W.setCell ta (.pointer (some e))) := by
 rw [rls]
 simp only [Sem.run_bind, partsEa, partsE, Result.andThen]
 simp [ReflectliteValue.flagAddr, loadVar, isAgg, underlying, Tryz.underlying73, hb, Result.andThen, directE, storeVar, Value.cells, storeCells, Addr.add]
 rw [run_store Tryz.prog W ta _ _ (by rfl)]
 simp [ht, hf]
set_option maxHeartbeats 4000000 in
theorem as1_hit (e t a : Addr) (old : Value) (w : World) (ht0 : w.cell? t = some old) (hf0 : w.frozen? t = false) (ha : w.cell? a = some (.pointer (some t))) :
  Calls Tryz.prog 37 #[.iface 73 (.pointer (some e)), .iface 74 (.pointer (some t)), .agg #[.pointer (some (rtA 74)), .pointer (some a), .int .u64 150], .iface 129 (.agg #[.pointer (some (rtA 73))])] w
   fun ev w' => ev = .returned (.bool true) ∧ w' = ((w.alloc (.cells #[.pointer (some (rtA 74)), .pointer (some a), .int .u64 150] 98)).alloc (.cells #[.pointer (some e)] 73)).setCell t (.pointer (some e)) := by
 have h6 := @run_callFunc_extern Tryz.prog 34 _ (fun args => ReflectliteValue.unpack (args.getD 0 (.tuple #[]))) Tryz.func34 (by kernel_rfl) (by kernel_rfl) (by kernel_rfl) (by kernel_rfl)
 have h10 := @run_callFunc_extern Tryz.prog 56 _ ReflectliteType.typeOf Tryz.func56 (by kernel_rfl) (by kernel_rfl) (by kernel_rfl) (by kernel_rfl)
 have h35 := @run_callFunc_extern Tryz.prog 160 _ (ReflectliteType.relation "AssignableTo" ReflectliteType.assignableTo) Tryz.func160 (by kernel_rfl) (by kernel_rfl) (by kernel_rfl) (by kernel_rfl)
 have h11 := @run_callFunc_extern Tryz.prog 57 _ (ReflectliteValue.method (ReflectliteValue.valueError "reflectlite.Value.Elem" 0) ReflectliteValue.elem) Tryz.func57 (by kernel_rfl) (by kernel_rfl) (by kernel_rfl) (by kernel_rfl)
 have h12 := @run_callFunc_extern Tryz.prog 58 _ ReflectliteValue.set Tryz.func58 (by kernel_rfl) (by kernel_rfl) (by kernel_rfl) (by kernel_rfl)
 have tO := typeOfE
 have mA := methodAssignableTo
 have a25 := assignableE
 have v25 := valueOfE
 have htl : t.block < w.heap.size := World.block_lt_of_cell? w t ht0
 have hal : a.block < w.heap.size := World.block_lt_of_cell? w a ha
 have el := elemVP a t (w.alloc (.cells #[.pointer (some (rtA 74)), .pointer (some a), .int .u64 150] 98)) (by rw [World.cell?_alloc_lt _ _ a hal]; exact ha)
 have st := setE t ⟨w.heap.size + 1, 0, none⟩ e old ((w.alloc (.cells #[.pointer (some (rtA 74)), .pointer (some a), .int .u64 150] 98)).alloc (.cells #[.pointer (some e)] 73))
  (by rw [World.cell?_alloc_at _ _ _ _ (by simp)]; rfl)
  (by rw [World.cell?_alloc_lt _ _ t (by simp; omega), World.cell?_alloc_lt _ _ t htl]; exact ht0)
  (by rw [World.frozen?_alloc_old _ _ t (by simp; omega), World.frozen?_alloc_old _ _ t (Nat.ne_of_lt htl)]; exact hf0)
 go_enter Tryz.func37, Tryz.ntmps37
 go_wp2
 refine wp_loop_rounds 1 ?_
 rw [rounds_succ]
 go_wp2
 go_ret
 exact ⟨rfl, rfl⟩
theorem typeOfF (w : World) : (ReflectliteType.typeOf #[vForm]).run Tryz.prog w = .ok (.iface 129 (.agg #[.pointer (some (rtA 111))])) w := by kernel_rfl
theorem assignableF (w : World) : (ReflectliteType.relation "AssignableTo" ReflectliteType.assignableTo #[.agg #[.pointer (some (rtA 111))], .iface 129 (.agg #[.pointer (some (rtA 73))])]).run Tryz.prog w = .ok (.bool false) w := by kernel_rfl
theorem noAsF (v : Value) (xT : TypeId) (w : World) : (Instr.typeAssert (.iface 111 v) xT 134 true).run Tryz.prog w = .ok (.tuple #[.nilIface, .bool false]) w := run_typeAssert_lacksB Tryz.underlying134 (by kernel_rfl) (by kernel_rfl) v xT w
theorem noUnF (v : Value) (xT : TypeId) (w : World) : (Instr.typeAssert (.iface 111 v) xT 137 true).run Tryz.prog w = .ok (.tuple #[.nilIface, .bool false]) w := run_typeAssert_lacksB Tryz.underlying137 (by kernel_rfl) (by kernel_rfl) v xT w
theorem noUsF (v : Value) (xT : TypeId) (w : World) : (Instr.typeAssert (.iface 111 v) xT 138 true).run Tryz.prog w = .ok (.tuple #[.nilIface, .bool false]) w := run_typeAssert_lacksB Tryz.underlying138 (by kernel_rfl) (by kernel_rfl) v xT w
set_option maxRecDepth 100000 in
set_option maxHeartbeats 4000000 in
theorem as1_miss (t a : Addr) (w : World) :
  Calls Tryz.prog 37 #[vForm, .iface 74 (.pointer (some t)), .agg #[.pointer (some (rtA 74)), .pointer (some a), .int .u64 150], .iface 129 (.agg #[.pointer (some (rtA 73))])] w
   fun ev w' => ev = .returned (.bool false) ∧ w' = w.alloc (.cells #[.pointer (some (rtA 74)), .pointer (some a), .int .u64 150] 98) := by
 have h10 := @run_callFunc_extern Tryz.prog 56 _ ReflectliteType.typeOf Tryz.func56 (by kernel_rfl) (by kernel_rfl) (by kernel_rfl) (by kernel_rfl)
 have h35 := @run_callFunc_extern Tryz.prog 160 _ (ReflectliteType.relation "AssignableTo" ReflectliteType.assignableTo) Tryz.func160 (by kernel_rfl) (by kernel_rfl) (by kernel_rfl) (by kernel_rfl)
 have tO := typeOfF
 have mA := methodAssignableTo
 have na := noAsF
 have nu := noUnF
 have nh := noUsF
 have aF := assignableF
 unfold vForm at *
 go_enter Tryz.func37, Tryz.ntmps37
 go_wp2
 refine wp_loop_rounds 1 ?_
 rw [rounds_succ]
 go_wp2_with fail
 go_ret
 exact ⟨rfl, rfl⟩
set_option maxRecDepth 100000 in
set_option maxHeartbeats 4000000 in
theorem as2_join (p q r c : Nat) (t a : Addr) (old : Value) (w : World) (ht0 : w.cell? t = some old) (hf0 : w.frozen? t = false) (ha : w.cell? a = some (.pointer (some t)))
  (hq : w.cell? ⟨q, 0, none⟩ = some (.slice (some ⟨r, 0, none⟩) 2 c)) (hr0 : w.cell? ⟨r, 0, none⟩ = some vForm) (hr1 : w.cell? ⟨r, 1, none⟩ = some (vWrong p)) :
  Calls Tryz.prog 37 #[vJoin q, .iface 74 (.pointer (some t)), .agg #[.pointer (some (rtA 74)), .pointer (some a), .int .u64 150], .iface 129 (.agg #[.pointer (some (rtA 73))])] w
   fun ev w' => ev = .returned (.bool true) ∧ ∃ w2, Below w.heap.size w w2 ∧ w' = w2.setCell t (.pointer (some ⟨p, 0, none⟩)) := by
 have h10 := @run_callFunc_extern Tryz.prog 56 _ ReflectliteType.typeOf Tryz.func56 (by kernel_rfl) (by kernel_rfl) (by kernel_rfl) (by kernel_rfl)
 have h35 := @run_callFunc_extern Tryz.prog 160 _ (ReflectliteType.relation "AssignableTo" ReflectliteType.assignableTo) Tryz.func160 (by kernel_rfl) (by kernel_rfl) (by kernel_rfl) (by kernel_rfl)
 have tO := typeOfJ
 have mA := methodAssignableTo
 have mU := methodUnwrap
 have na := noAs
 have nu := noUnwrap
 have nh := hasUnwraps
 have aJ := assignableJ
 have b1 : Below w.heap.size w (w.alloc (.cells #[.pointer (some (rtA 74)), .pointer (some a), .int .u64 150] 98)) := (Below.refl _ w).alloc (Nat.le_refl _) _
 have b2 : Below w.heap.size w ((w.alloc (.cells #[.pointer (some (rtA 74)), .pointer (some a), .int .u64 150] 98)).alloc (.cells #[.pointer (some (rtA 74)), .pointer (some a), .int .u64 150] 98)) := b1.alloc (by simp) _
 have c0 := cell_below b1 hr0
 have c1 := cell_below b2 hr1
 have HQ := Tre.hid (cell_below b1 hq)
 have htl : t.block < w.heap.size := World.block_lt_of_cell? w t ht0
 have HT := Tre.hid (as1_hit ⟨p, 0, none⟩ t a old _ (show ((w.alloc (.cells #[.pointer (some (rtA 74)), .pointer (some a), .int .u64 150] 98)).alloc (.cells #[.pointer (some (rtA 74)), .pointer (some a), .int .u64 150] 98)).cell? t = some old from by rw [World.cell?_alloc_lt _ _ t (by simp; omega), World.cell?_alloc_lt _ _ t htl]; exact ht0)
  (by rw [World.frozen?_alloc_old _ _ t (by simp; omega), World.frozen?_alloc_old _ _ t (Nat.ne_of_lt htl)]; exact hf0) (by
   have hal : a.block < w.heap.size := World.block_lt_of_cell? w a ha
   rw [World.cell?_alloc_lt _ _ a (by simp; omega), World.cell?_alloc_lt _ _ a hal]; exact ha))
 have HB2 := Tre.hid b2
 clear b1 b2 ht0 hf0 ha hq hr0 hr1 htl
 unfold vForm vJoin vWrong at *
 go_enter Tryz.func37, Tryz.ntmps37
 go_wp2
 refine wp_loop_rounds 1 ?_
 rw [rounds_succ]
 go_wp2_with fail
 refine (unwrap q _ _ HQ.out).mono ?_
 rintro e w' ⟨rfl, rfl⟩
 go_wp2_with fail
 refine wp_loop_rounds 2 ?_
 rw [rounds_succ]
 go_wp2_with fail
 refine (as1_miss t a _).mono ?_
 rintro e w' ⟨rfl, rfl⟩
 go_wp2_with fail
 rw [rounds_succ]
 go_wp2_with fail
 refine HT.out.mono ?_
 rintro e w' ⟨rfl, rfl⟩
 go_wp2_with fail
 go_ret
 exact ⟨rfl, _, (HB2.out.alloc HB2.out.size _).alloc (Nat.le_trans HB2.out.size (by simp)) _, rfl⟩
set_option maxRecDepth 100000 in
set_option maxHeartbeats 4000000 in
theorem as_of (x : Value) (t : Addr) (old : Value) (w : World) (hx : x ≠ .nilIface) (hx' : ∃ tx vx, x = .iface tx vx) (hg : ErrT w) (ht0 : w.cell? t = some old) (hf0 : w.frozen? t = false) (p : Nat)
  (H : ∀ (a : Addr) (w1 : World), w1.cell? t = some old → w1.frozen? t = false → w1.cell? a = some (.pointer (some t)) → Below w.heap.size w w1 →
   Calls Tryz.prog 37 #[x, .iface 74 (.pointer (some t)), .agg #[.pointer (some (rtA 74)), .pointer (some a), .int .u64 150], .iface 129 (.agg #[.pointer (some (rtA 73))])] w1
    fun ev w' => ev = .returned (.bool true) ∧ ∃ w2, Below w1.heap.size w1 w2 ∧ w' = w2.setCell t (.pointer (some ⟨p, 0, none⟩))) :
  Calls Tryz.prog 19 #[x, .iface 74 (.pointer (some t))] w fun ev w' => ev = .returned (.bool true) ∧ ∃ w2, Below w.heap.size w w2 ∧ w' = w2.setCell t (.pointer (some ⟨p, 0, none⟩)) := by
 have h6 := @run_callFunc_extern Tryz.prog 34 _ (fun args => ReflectliteValue.unpack (args.getD 0 (.tuple #[]))) Tryz.func34 (by kernel_rfl) (by kernel_rfl) (by kernel_rfl) (by kernel_rfl)
 have h7 := @run_callFunc_extern Tryz.prog 35 _ (ReflectliteValue.methodAny (ReflectliteValue.valueError "reflectlite.Value.Type" 0) (fun t _ _ _ => ReflectliteType.toType t)) Tryz.func35 (by kernel_rfl) (by kernel_rfl) (by kernel_rfl) (by kernel_rfl)
 have h8 := @run_callFunc_extern Tryz.prog 36 _ (ReflectliteValue.method (ReflectliteValue.valueError "reflectlite.Value.IsNil" 0) ReflectliteValue.isNil) Tryz.func36 (by kernel_rfl) (by kernel_rfl) (by kernel_rfl) (by kernel_rfl)
 have h27 := @run_callFunc_extern Tryz.prog 149 _ (ReflectliteType.abiMethod fun t => do pure (.int .u8 (← Rtype.kind t))) Tryz.func149 (by kernel_rfl) (by kernel_rfl) (by kernel_rfl) (by kernel_rfl)
 have h37 := @run_callFunc_extern Tryz.prog 162 _ (ReflectliteType.method ReflectliteType.elem) Tryz.func162 (by kernel_rfl) (by kernel_rfl) (by kernel_rfl) (by kernel_rfl)
 have h38 := @run_callFunc_extern Tryz.prog 163 _ (ReflectliteType.relation "Implements" ReflectliteType.implements_) Tryz.func163 (by kernel_rfl) (by kernel_rfl) (by kernel_rfl) (by kernel_rfl)
 have f6 := valueOfP
 have f7 := typeP
 have mK := methodKind
 have mE := methodElem
 have mI := methodImplements
 have k27 := kindP
 have k25 := kindE
 have e27 := elemP
 have i25 := implementsE
 have htl : t.block < w.heap.size := World.block_lt_of_cell? w t ht0
 have n8 := isNilP ⟨w.heap.size, 0, none⟩ t ((w.alloc (.cells #[.pointer (some t)] 74)).alloc (.cells #[.pointer (some (rtA 74)), .pointer (some ⟨w.heap.size, 0, none⟩), .int .u64 150] 98)) (by simp)
 have hlt : 0 < w.heap.size := World.block_lt_of_cell? w _ hg
 have hg2 : ((w.alloc (.cells #[.pointer (some t)] 74)).alloc (.cells #[.pointer (some (rtA 74)), .pointer (some ⟨w.heap.size, 0, none⟩), .int .u64 150] 98)).cell? ⟨0, 0, none⟩ = some (.iface 129 (.agg #[.pointer (some (rtA 59))])) := by
  rw [World.cell?_alloc_lt _ _ ⟨0, 0, none⟩ (by simp; try omega), World.cell?_alloc_lt _ _ ⟨0, 0, none⟩ hlt]; exact hg
 have H1 := H ⟨w.heap.size, 0, none⟩ ((w.alloc (.cells #[.pointer (some t)] 74)).alloc (.cells #[.pointer (some (rtA 74)), .pointer (some ⟨w.heap.size, 0, none⟩), .int .u64 150] 98))
  (by rw [World.cell?_alloc_lt _ _ t (by simp; omega), World.cell?_alloc_lt _ _ t htl]; exact ht0)
  (by rw [World.frozen?_alloc_old _ _ t (by simp; omega), World.frozen?_alloc_old _ _ t (Nat.ne_of_lt htl)]; exact hf0)
  (by rw [World.cell?_alloc_lt _ _ ⟨w.heap.size, 0, none⟩ (by simp), World.cell?_alloc_at _ _ _ _ (by simp)]; rfl)
  (((Below.refl _ _).alloc (Nat.le_refl _) _).alloc (by simp) _)
 have HH := Tre.hid H1
 have HHT := Tre.hid hg
 clear H1 H hg
 obtain ⟨tx, vx, rfl⟩ := hx'
 clear hx
 go_enter Tryz.func19, Tryz.ntmps19
 go_wp2_with fail
 refine HH.out.mono ?_
 rintro e w' ⟨rfl, w2, hb, rfl⟩
 have HB := Tre.hid hb
 clear hb
 go_wp2_with fail
 go_ret
 exact ⟨rfl, w2, (((Below.refl _ w).alloc (Nat.le_refl _) _).alloc (by simp) _).trans (HB.out.mono (by simp; omega)), rfl⟩
theorem as_fail (w0 : World) (q r c bw pl : Nat) (t : Addr) (old : Value) (w : World) (rs : List Res) (M : Mem w0 w (cellsR q 158 #[.slice (some ⟨r, 0, none⟩) 2 c] :: rowR 59 1 (.slice (some ⟨r, 0, none⟩) 2 c) 2 [vForm, vWrong bw] :: cellsR bw 76 #[.int .i64 pl] :: rs)) (hg : ErrT w) (ht0 : w.cell? t = some old) (hf0 : w.frozen? t = false) :
  Calls Tryz.prog 19 #[vJoin q, .iface 74 (.pointer (some t))] w fun ev w' => ev = .returned (.bool true) ∧ ∃ w2, Below w.heap.size w w2 ∧ w' = w2.setCell t (.pointer (some ⟨bw, 0, none⟩)) := by
 refine (as_of _ t old w (by intro h; cases h) ⟨_, _, rfl⟩ hg ht0 hf0 bw ?_).mono ?_
 ·intro a w1 c1 c2 c3 hb
  refine (as2_join bw q r c t a old w1 c1 c2 c3 (cell_below hb (M.cell 0 rfl 0 rfl)) (cell_below hb (M.cellAt 1 rfl 0 rfl)) (cell_below hb (M.cellAt 1 rfl 1 rfl))).mono ?_
  rintro e w' ⟨rfl, w2, hb2, rfl⟩
  exact ⟨rfl, w2, hb2, rfl⟩
 ·rintro e w' ⟨rfl, w2, hb, rfl⟩
  exact ⟨rfl, w2, hb, rfl⟩
end Go.Proofs.YtbafalfmgibnfaaGreatDoor.asw
namespace Go.Proofs.YtbafalfmgibnfaaGreatDoor.typ
open Go.RowKit Go.Tre tree
set_option maxRecDepth 100000 in
set_option maxHeartbeats 8000000 in
theorem Parse_form (ad : Option Addr) (c : Nat) (l : List Tok) (i : Nat) (w : World) (hl : ToksAt w ad l) (hll : l.length ≤ 4194304) (h0 : 0 < l.length) (hx : idxFunc noEnd l = ((l.length - 1 : Nat) : Int)) (hi : i < l.length) (hE : ErrT w)
  (H : ∀ (b : Nat) (rs : List Res) (W : World), Mem w W (parR b ad l.length c i :: rs) → Calls Tryz.prog 42 #[.pointer (some ⟨b, 0, none⟩), .int .i64 0] W (FailPost w rs)) :
  Calls Tryz.prog 12 #[.slice ad l.length c, .int .i64 i] w fun e w' => ∃ pl : Nat, e = .returned (.tuple #[.agg #[.int .i64 0, .string ⟨#[]⟩, .slice none 0 0, .slice none 0 0, .bool false], .int .i64 pl, .int .i64 6]) ∧ Below w.heap.size w w' := by
 have M0 := (Mem.nil w).allocR #[.int .i64 0, .string ⟨#[]⟩, .slice none 0 0, .slice none 0 0, .bool false] 28
 have HM0 := Tre.hid M0
 have HT := Tre.hid (text_yes ad c l _ (hl.below M0.below) hll h0 hx)
 have HH := Tre.hid H
 have HEE := Tre.hid hE
 have hi1 : (i : Int) < (l.length : Int) := by omega
 have hi2 : ¬ (i : Int) < 0 := by omega
 have hi3 : decide (l.length ≤ i) = false := decide_eq_false (by omega)
 have hi4 : decide ((i : Int) < 0) = false := decide_eq_false hi2
 clear hl hx M0 H hE
 go_enter Tryz.func12, Tryz.ntmps12
 go_wp2_with fail
 refine HT.out.mono ?_
 rintro e w1 ⟨rfl, b1⟩
 have M1 := HM0.out.quiet b1
 have M2 := M1.allocR #[.slice ad l.length c, .int .i64 (i : Int)] 70
 have HR := Tre.hid (run_fail w (.pointer (some ⟨w1.heap.size, 0, none⟩)) (cellsR w1.heap.size 70 #[.slice ad l.length c, .int .i64 (i : Int)]) [cellsR w.heap.size 28 #[.int .i64 0, .string ⟨#[]⟩, .slice none 0 0, .slice none 0 0, .bool false]] _ M2 (fun W hW _ => HH.out _ _ W (hW.front 2 rfl)))
 clear HM0 M1 M2 HT hi1 hi2 hi3 b1 HH
 go_wp2_with fail
 refine HR.out.mono ?_
 rintro e w2 ⟨q, pl, rfl, hF⟩
 obtain ⟨r, c2, bw, M2⟩ := hF
 have M3 := (M2.allocR #[.int .i64 0, .string ⟨#[]⟩, .slice none 0 0, .slice none 0 0, .bool false] 28).allocR #[.pointer none] 73
 rw [World.size_alloc] at M3
 have HAS := Tre.hid (asw.as_fail w q r c2 bw pl ⟨w2.heap.size + 1, 0, none⟩ (.pointer none) _ _ (((M3.front 4 rfl).front 4 rfl).front 4 rfl) (HEE.out.below M3.below) (M3.cell 0 rfl 0 rfl) (M3.free 0 rfl 0))
 have HM3 := Tre.hid M3
 unfold vJoin at *
 clear M2 M3 HR
 generalize hrb : w.heap.size = rb at *
 generalize htb : w2.heap.size + 1 = tb at *
 go_wp2_with fail
 refine HAS.out.mono ?_
 rintro e w5 ⟨rfl, w6, b6, rfl⟩
 have M6 := (HM3.out.quiet b6).setCell 0 rfl 0 (.pointer (some ⟨bw, 0, none⟩))
 have M7 : Mem w (w6.setCell ⟨tb, 0, none⟩ (.pointer (some ⟨bw, 0, none⟩))) [cellsR tb 73 #[.pointer (some ⟨bw, 0, none⟩)], cellsR bw 76 #[.int .i64 pl], cellsR rb 28 #[.int .i64 0, .string ⟨#[]⟩, .slice none 0 0, .slice none 0 0, .bool false]] := ((M6.del 1).del 1).del 1
 have HM7 := Tre.hid M7
 clear M6 M7 b6 HM3 HAS
 generalize w6.setCell ⟨tb, 0, none⟩ (.pointer (some ⟨bw, 0, none⟩)) = w7 at *
 have p0 := HM7.out.cell 0 rfl 0 rfl
 have p1 := HM7.out.cell 1 rfl 0 rfl
 go_wp2_with fail
 have cS : Cond (fun w' => w'.cell? ⟨tb, 0, none⟩ = some (.pointer (some ⟨bw, 0, none⟩)) ∧ w'.cell? ⟨bw, 0, none⟩ = some (.int .i64 pl)) := ⟨⟩
 refine cS.keep [] ?_ (fun hH0 => ?_)
 ·exact ⟨p0, p1⟩
 have H0 := Tre.hid HM7.out.drew
 generalize hq : w7.drew = wq0 at H0 hH0 ⊢
 clear hq p0 p1 HM7
 refine lPq 0 (some 37) (v := ?_) rfl ?_ (keep_of hH0) ?_
 rotate_left
 ·intro w; go_simp <;> with_reducible rfl
 try simp only [Act.put, zqf, zqg, zqh]
 refine lTq 1 (some 38) (v := ?_) rfl ?_ hH0 ?_
 rotate_left
 ·intro w hSw; (try dsimp only at hSw); go_simp <;> with_reducible rfl
 try simp only [Act.put, zqf, zqg, zqh]
 refine lPq 2 (some 39) (v := ?_) rfl ?_ (keep_of hH0) ?_
 rotate_left
 ·intro w; go_simp <;> with_reducible rfl
 try simp only [Act.put, zqf, zqg, zqh]
 refine lPq 3 (some 40) (v := ?_) rfl ?_ (keep_of hH0) ?_
 rotate_left
 ·intro w; go_simp <;> with_reducible rfl
 try simp only [Act.put, zqf, zqg, zqh]
 refine lTq 4 (some 41) (v := ?_) rfl ?_ hH0 ?_
 rotate_left
 ·intro w hSw; (try dsimp only at hSw); go_simp <;> with_reducible rfl
 try simp only [Act.put, zqf, zqg, zqh]
 refine lOne 5 (by kernel_rfl) (LStep.op (fun K hK => ?_))
 have MT : Mem w wq0 (cellsR rb 28 #[.int .i64 0, .string ⟨#[]⟩, .slice none 0 0, .slice none 0 0, .bool false] :: _) := H0.out.front 2 rfl
 have g0 : wq0.cell? ⟨rb, 0, none⟩ = some (.int .i64 0) := MT.cell 0 rfl 0 rfl
 have g1 : wq0.cell? ⟨rb, 1, none⟩ = some (.string ⟨#[]⟩) := MT.cell 0 rfl 1 rfl
 have g2 : wq0.cell? ⟨rb, 2, none⟩ = some (.slice none 0 0) := MT.cell 0 rfl 2 rfl
 have g3 : wq0.cell? ⟨rb, 3, none⟩ = some (.slice none 0 0) := MT.cell 0 rfl 3 rfl
 have g4 : wq0.cell? ⟨rb, 4, none⟩ = some (.bool false) := MT.cell 0 rfl 4 rfl
 have f0 := MT.free 0 rfl 0
 have f1 := MT.free 0 rfl 1
 have f2 := MT.free 0 rfl 2
 have f3 := MT.free 0 rfl 3
 have f4 := MT.free 0 rfl 4
 have M6 : Mem w (((((wq0.setCell ⟨rb, 0, none⟩ (.int .i64 0)).setCell ⟨rb, 1, none⟩ (.string ⟨#[]⟩)).setCell ⟨rb, 2, none⟩ (.slice none 0 0)).setCell ⟨rb, 3, none⟩ (.slice none 0 0)).setCell ⟨rb, 4, none⟩ (.bool false)) (cellsR rb 28 #[.int .i64 0, .string ⟨#[]⟩, .slice none 0 0, .slice none 0 0, .bool false] :: _) := (((((MT.setCell 0 rfl 0 (.int .i64 0)).setCell 0 rfl 1 (.string ⟨#[]⟩)).setCell 0 rfl 2 (.slice none 0 0)).setCell 0 rfl 3 (.slice none 0 0)).setCell 0 rfl 4 (.bool false))
 go_simp
 generalize hw : ((((wq0.setCell ⟨rb, 0, none⟩ (.int .i64 0)).setCell ⟨rb, 1, none⟩ (.string ⟨#[]⟩)).setCell ⟨rb, 2, none⟩ (.slice none 0 0)).setCell ⟨rb, 3, none⟩ (.slice none 0 0)).setCell ⟨rb, 4, none⟩ (.bool false) = wq1 at M6 ⊢
 have H1 := Tre.hid M6
 have s0 : wq1.cell? ⟨tb, 0, none⟩ = some (.pointer (some ⟨bw, 0, none⟩)) := M6.cell 1 rfl 0 rfl
 have s1 : wq1.cell? ⟨bw, 0, none⟩ = some (.int .i64 pl) := M6.cell 2 rfl 0 rfl
 have S0 := Tre.hid s0
 have S1 := Tre.hid s1
 clear s0 s1 M6 MT hw g0 g1 g2 g3 g4 f0 f1 f2 f3 f4
 refine hK.out _ _ ?_ (fun hH1 => ?_)
 ·exact ⟨S0.out, S1.out⟩
 clear hK K hH0
 try simp only [Act.put, zqf, zqg, zqh]
 refine lPq 6 (some 5) (v := ?_) rfl ?_ (keep_of hH1) ?_
 rotate_left
 ·intro w; go_simp <;> with_reducible rfl
 try simp only [Act.put, zqf, zqg, zqh]
 refine lPq 7 (some 6) (v := ?_) rfl ?_ (keep_of hH1) ?_
 rotate_left
 ·intro w; go_simp <;> with_reducible rfl
 try simp only [Act.put, zqf, zqg, zqh]
 refine lDone (by kernel_rfl) ?_
 clear hH1
 go_wp2_with fail
 have z0 : wq1.cell? ⟨rb, 0, none⟩ = some (.int .i64 0) := H1.out.cell 0 rfl 0 rfl
 have z1 : wq1.cell? ⟨rb, 1, none⟩ = some (.string ⟨#[]⟩) := H1.out.cell 0 rfl 1 rfl
 have z2 : wq1.cell? ⟨rb, 2, none⟩ = some (.slice none 0 0) := H1.out.cell 0 rfl 2 rfl
 have z3 : wq1.cell? ⟨rb, 3, none⟩ = some (.slice none 0 0) := H1.out.cell 0 rfl 3 rfl
 have z4 : wq1.cell? ⟨rb, 4, none⟩ = some (.bool false) := H1.out.cell 0 rfl 4 rfl
 refine bodyPost_ret (v := .tuple #[.agg #[.int .i64 0, .string ⟨#[]⟩, .slice none 0 0, .slice none 0 0, .bool false], .int .i64 pl, .int .i64 6]) (by simp [results, Tryz.results12, go_sem, z0, z1, z2, z3, z4]) rfl ?_
 exact ⟨pl, rfl, H1.out.below⟩
end Go.Proofs.YtbafalfmgibnfaaGreatDoor.typ
namespace Go.Proofs.YtbafalfmgibnfaaGreatDoor.typ
open Go.RowKit Go.Tre tree
set_option maxRecDepth 100000 in
set_option maxHeartbeats 8000000 in
theorem Parse_deep (ad : Option Addr) (c : Nat) (l : List Tok) (i k j : Nat) (t : Ty) (w : World) (hl : ToksAt w ad l) (hll : l.length ≤ 4194304) (h0 : 0 < l.length) (hx : idxFunc noEnd l = ((l.length - 1 : Nat) : Int)) (hi : i < l.length) (hp : pLev l k 0 i = some (t, j)) (ht : verdictI (walkT t) = 4) (hw : t.weight ≤ 4194304) (hm : MaxAt w) :
  Calls Tryz.prog 12 #[.slice ad l.length c, .int .i64 i] w fun e w' =>
   e = .returned (.tuple #[.agg #[.int .i64 0, .string ⟨#[]⟩, .slice none 0 0, .slice none 0 0, .bool false], .int .i64 i, .int .i64 4]) ∧ Below w.heap.size w w' := by
 have M0 := (Mem.nil w).allocR #[.int .i64 0, .string ⟨#[]⟩, .slice none 0 0, .slice none 0 0, .bool false] 28
 have HM0 := Tre.hid M0
 have HT := Tre.hid (text_yes ad c l _ (hl.below M0.below) hll h0 hx)
 have HL := Tre.hid hl
 have HE := Tre.hid (ends_of h0 hx)
 have HP := Tre.hid hp
 have HV := Tre.hid ht
 have HX := Tre.hid hm
 have HW := Tre.hid hw
 have hi1 : (i : Int) < (l.length : Int) := by omega
 have hi2 : ¬ (i : Int) < 0 := by omega
 have hi3 : decide (l.length ≤ i) = false := decide_eq_false (by omega)
 have hi4 : decide ((i : Int) < 0) = false := decide_eq_false hi2
 clear hl hx hp ht hm hw M0
 go_enter Tryz.func12, Tryz.ntmps12
 go_wp2_with fail
 refine HT.out.mono ?_
 rintro e w1 ⟨rfl, b1⟩
 have M1 := HM0.out.quiet b1
 have M2 := M1.allocR #[.slice ad l.length c, .int .i64 (i : Int)] 70
 have HR := Tre.hid (run_any w w1.heap.size ad c l HL.out HE.out hll k [cellsR w.heap.size 28 #[.int .i64 0, .string ⟨#[]⟩, .slice none 0 0, .slice none 0 0, .bool false]] i j t _ hi HP.out M2)
 clear HM0 M1 M2 HT hi1 hi2 hi3 b1
 go_wp2_with fail
 refine HR.out.mono ?_
 rintro e w2 ⟨O, aa, ca, al, cl, rfl, hj, M2⟩
 have M3 := (M2.allocR #[.int .i64 (t.kind : Int), .string ⟨t.s.toArray⟩, .slice aa t.args.length ca, .slice al t.labels.length cl, .bool t.opn] 28).allocR #[.pointer none] 73
 rw [World.size_alloc] at M3
 have HM3 := Tre.hid M3
 have HJ := Tre.hid hj
 generalize w1.heap.size = pb at *
 generalize hrb : w.heap.size = rb at *
 clear M2 M3 hj HR
 go_wp2_with fail
 refine (as_nil _ _).mono ?_
 rintro e w3 ⟨rfl, rfl⟩
 have y0 := HM3.out.cell 1 rfl 0 rfl
 have y1 := HM3.out.cell 1 rfl 1 rfl
 have y2 := HM3.out.cell 1 rfl 2 rfl
 have y3 := HM3.out.cell 1 rfl 3 rfl
 have y4 := HM3.out.cell 1 rfl 4 rfl
 have hty := HM3.out.at_ 2 rfl
 have HCT := Tre.hid (check_type t O _ _ HW.out hty.1 hty.2 (HX.out.below (by rw [hrb]; have := HM3.out.below; rw [hrb] at this; exact this)))
 rw [HV.out] at HCT
 clear hty
 go_wp2_with fail
 refine HCT.out.mono ?_
 rintro e w4 ⟨rfl, b4⟩
 generalize w2.heap.size = qb at *
 have M4 : Mem w w4 (cellsR (qb + 1) 73 #[.pointer none] :: cellsR qb 28 #[.int .i64 (t.kind : Int), .string ⟨t.s.toArray⟩, .slice aa t.args.length ca, .slice al t.labels.length cl, .bool t.opn] :: tyR O t (.agg #[.int .i64 (t.kind : Int), .string ⟨t.s.toArray⟩, .slice aa t.args.length ca, .slice al t.labels.length cl, .bool t.opn]) :: parR pb ad l.length c j :: cellsR rb 28 #[.int .i64 0, .string ⟨#[]⟩, .slice none 0 0, .slice none 0 0, .bool false] :: []) := HM3.out.quiet b4
 have MT : Mem w w4 (cellsR rb 28 #[.int .i64 0, .string ⟨#[]⟩, .slice none 0 0, .slice none 0 0, .bool false] :: _) := M4.front 4 rfl
 have g0 : w4.cell? ⟨rb, 0, none⟩ = some (.int .i64 0) := MT.cell 0 rfl 0 rfl
 have g1 : w4.cell? ⟨rb, 1, none⟩ = some (.string ⟨#[]⟩) := MT.cell 0 rfl 1 rfl
 have g2 : w4.cell? ⟨rb, 2, none⟩ = some (.slice none 0 0) := MT.cell 0 rfl 2 rfl
 have g3 : w4.cell? ⟨rb, 3, none⟩ = some (.slice none 0 0) := MT.cell 0 rfl 3 rfl
 have g4 : w4.cell? ⟨rb, 4, none⟩ = some (.bool false) := MT.cell 0 rfl 4 rfl
 have f0 := MT.free 0 rfl 0
 have f1 := MT.free 0 rfl 1
 have f2 := MT.free 0 rfl 2
 have f3 := MT.free 0 rfl 3
 have f4 := MT.free 0 rfl 4
 have M6 : Mem w (((((w4.setCell ⟨rb, 0, none⟩ (.int .i64 0)).setCell ⟨rb, 1, none⟩ (.string ⟨#[]⟩)).setCell ⟨rb, 2, none⟩ (.slice none 0 0)).setCell ⟨rb, 3, none⟩ (.slice none 0 0)).setCell ⟨rb, 4, none⟩ (.bool false)) (cellsR rb 28 #[.int .i64 0, .string ⟨#[]⟩, .slice none 0 0, .slice none 0 0, .bool false] :: _) := (((((MT.setCell 0 rfl 0 (.int .i64 0)).setCell 0 rfl 1 (.string ⟨#[]⟩)).setCell 0 rfl 2 (.slice none 0 0)).setCell 0 rfl 3 (.slice none 0 0)).setCell 0 rfl 4 (.bool false))
 have H6 := Tre.hid M6
 clear M4 b4 HM3 HCT y0 y1 y2 y3 y4 M6 MT
 go_wp2_with fail
 generalize ((((w4.setCell ⟨rb, 0, none⟩ (.int .i64 0)).setCell ⟨rb, 1, none⟩ (.string ⟨#[]⟩)).setCell ⟨rb, 2, none⟩ (.slice none 0 0)).setCell ⟨rb, 3, none⟩ (.slice none 0 0)).setCell ⟨rb, 4, none⟩ (.bool false) = wz at H6 ⊢
 have z0 : wz.cell? ⟨rb, 0, none⟩ = some (.int .i64 0) := H6.out.cell 0 rfl 0 rfl
 have z1 : wz.cell? ⟨rb, 1, none⟩ = some (.string ⟨#[]⟩) := H6.out.cell 0 rfl 1 rfl
 have z2 : wz.cell? ⟨rb, 2, none⟩ = some (.slice none 0 0) := H6.out.cell 0 rfl 2 rfl
 have z3 : wz.cell? ⟨rb, 3, none⟩ = some (.slice none 0 0) := H6.out.cell 0 rfl 3 rfl
 have z4 : wz.cell? ⟨rb, 4, none⟩ = some (.bool false) := H6.out.cell 0 rfl 4 rfl
 refine bodyPost_ret (v := .tuple #[.agg #[.int .i64 0, .string ⟨#[]⟩, .slice none 0 0, .slice none 0 0, .bool false], .int .i64 i, .int .i64 4]) (by simp [results, Tryz.results12, go_sem, z0, z1, z2, z3, z4]) rfl ?_
 exact ⟨rfl, H6.out.below⟩
end Go.Proofs.YtbafalfmgibnfaaGreatDoor.typ
namespace Go.Tre
theorem obj_rd {w : World} {t : Ty} {L : List (List UInt8)} {aw lw : Option Addr} {cw dw : Nat} (h : TyRd w (objTy t L) (.agg #[.int .i64 3, .string ⟨#[]⟩, .slice aw L.length cw, .slice lw L.length dw, .bool true])) :
  (∀ (i : Nat) (x : List UInt8), L[i]? = some x → ∃ b off, lw = some ⟨b, off, none⟩ ∧ w.cell? ⟨b, off + i, none⟩ = some (.string ⟨x.toArray⟩)) ∧
  (∀ i : Nat, i < L.length → ∃ b off aa ca al cl, aw = some ⟨b, off, none⟩ ∧ (∀ (j : Nat) (u : Value), (#[.int .i64 t.kind, .string ⟨t.s.toArray⟩, .slice aa t.args.length ca, .slice al t.labels.length cl, .bool t.opn] : Array Value)[j]? = some u → w.cell? ⟨b, off + i * 5 + j, none⟩ = some u) ∧
   TyRd w t (.agg #[.int .i64 t.kind, .string ⟨t.s.toArray⟩, .slice aa t.args.length ca, .slice al t.labels.length cl, .bool t.opn])) := by
 unfold objTy at h
 generalize hv : (Value.agg #[.int .i64 3, .string ⟨#[]⟩, .slice aw L.length cw, .slice lw L.length dw, .bool true]) = v at h
 cases h with
 | mk V hlab hcell hargs =>
  injection hv with hv
  have e2 := congrArg (fun x : Array Value => x[2]?) hv
  have e3 := congrArg (fun x : Array Value => x[3]?) hv
  simp at e2 e3
  obtain ⟨rfl, rfl⟩ := e2
  obtain ⟨rfl, rfl⟩ := e3
  refine ⟨fun i x hx => hlab i x hx, fun i hi => ?_⟩
  obtain ⟨b, off, e, _, hc⟩ := hcell i (by rw [List.length_replicate]; exact hi)
  have ht := hargs i t (by rw [List.getElem?_replicate, if_pos hi])
  obtain ⟨aa, ca, al, cl, e5⟩ := ht.agg
  injection e5 with e5
  rw [e5] at hc ht
  exact ⟨b, off, aa, ca, al, cl, e, hc, ht⟩
end Go.Tre
namespace Go.Proofs.YtbafalfmgibnfaaGreatDoor.typ
open Go.RowKit Go.Tre tree
theorem Parse_twice (ad : Option Addr) (c : Nat) (l : List Tok) (k : Nat) (w : World) (hl : ToksAt w ad l) (hll : l.length ≤ 4194304) (h1 : 1 < l.length) (hx : idxFunc noEnd l = ((l.length - 1 : Nat) : Int)) (hE : ErrT w)
  (q : Tok) (hq : l[0]? = some q) (hk : q.kind = 6) (hs : q.s = [60]) (hne : tk l 1 6 [62] = false) (hp : oFails l k [] 1) :
  Calls Tryz.prog 12 #[.slice ad l.length c, .int .i64 0] w fun e w' => ∃ pl : Nat, e = .returned (.tuple #[.agg #[.int .i64 0, .string ⟨#[]⟩, .slice none 0 0, .slice none 0 0, .bool false], .int .i64 pl, .int .i64 6]) ∧ Below w.heap.size w w' := by
 have he : TokEnds l := ends_of (by omega) hx
 exact Parse_form ad c l 0 w hl hll (by omega) hx (by omega) hE (fun b rs W hM =>
  level0_fail w b ad l.length c 0 (level1_fail w b ad l.length c 0 (level2_fail w b ad l.length c 0 (level3_fail w b ad l.length c 0 (atom_fail w b ad c l hl hll 0 (by omega) q hq hk hs (object_fail w b ad c l hl he hll k 1 h1 hne hp))))) rs W hM)
theorem Parse_obj (ad : Option Addr) (c : Nat) (l : List Tok) (k j : Nat) (t : Ty) (L : List (List UInt8)) (w : World) (hl : ToksAt w ad l) (hll : l.length ≤ 4194304) (h0 : 0 < l.length) (hx : idxFunc noEnd l = ((l.length - 1 : Nat) : Int)) (hp : pLev l k 0 0 = some (objTy t L, j)) (ht : verdictI (walkT (objTy t L)) = 0) (hw : (objTy t L).weight ≤ 4194304) (hm : MaxAt w) :
  Calls Tryz.prog 12 #[.slice ad l.length c, .int .i64 0] w fun e w' =>
   ∃ (O : Nat → Prop) (aw : Option Addr) (cw : Nat) (lw : Option Addr) (dw : Nat), e = .returned (.tuple #[.agg #[.int .i64 3, .string ⟨#[]⟩, .slice aw L.length cw, .slice lw L.length dw, .bool true], .int .i64 j, .int .i64 0]) ∧ Mem w w' [tyR O (objTy t L) (.agg #[.int .i64 3, .string ⟨#[]⟩, .slice aw L.length cw, .slice lw L.length dw, .bool true])] := by
 refine (Parse_ok ad c l 0 k j (objTy t L) w hl hll h0 hx h0 hp ht hw hm).mono ?_
 rintro e w' ⟨O, aa, ca, al, cl, rfl, m⟩
 have e1 : (objTy t L).args.length = L.length := List.length_replicate ..
 have e2 : (objTy t L).labels = L := rfl
 have e3 : (objTy t L).kind = 3 := rfl
 have e4 : (objTy t L).s = [] := rfl
 have e5 : (objTy t L).opn = true := rfl
 rw [e1, e2, e3, e4, e5] at m ⊢
 exact ⟨O, aa, ca, al, cl, rfl, m⟩
end Go.Proofs.YtbafalfmgibnfaaGreatDoor.typ
