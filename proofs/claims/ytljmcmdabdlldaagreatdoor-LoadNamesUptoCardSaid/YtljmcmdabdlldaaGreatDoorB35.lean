/- load.Names' inner function that goes through a type: whatever it does at each part. load.Names' two inner functions: names that are bound; names that are not. load.Names, at a type that may be. Layer 7, plain: with other names, or further behind in a table, a type is loaded as the same graph. LoadMay, plain: a loaded graph has as many variables as the type has names that no as binds. -/
import Derived.Test.YtljmcmdabdlldaaGreatDoorB34
import Derived.Test.YtljmcmdabdlldaaGreatDoorB15
import Derived.Laws.EntriesVeiled
import Derived.Test.YtljmcmdabdlldaaGreatDoorB19
import Derived.Test.YtljmcmdabdlldaaGreatDoorB32
set_option linter.unusedVariables false
namespace Go.Tre
open Go.RowKit Go.Maps
structure NSt where
 f : ByteArray → Bool
 g : ByteArray → Bool
 out : List (List UInt8)
 a : Option Addr
 c : Nat
inductive NSteps (step : NSt → PE → NSt → Prop) : NSt → List PE → NSt → Prop
 | nil (σ : NSt) : NSteps step σ [] σ
 | cons {σ σ' σ'' : NSt} {p : PE} {l : List PE} : step σ p σ' → NSteps step σ' l σ'' → NSteps step σ (p :: l) σ''
theorem NSteps.app {step : NSt → PE → NSt → Prop} {σ σ' σ'' : NSt} {l m : List PE} (h : NSteps step σ l σ') (k : NSteps step σ' m σ'') : NSteps step σ (l ++ m) σ'' := by
 induction h with
 | nil => exact k
 | cons h1 _ ih => exact .cons h1 (ih k)
theorem NSteps.len {step : NSt → PE → NSt → Prop} (hs : ∀ σ p σ', step σ p σ' → σ'.out.length ≤ σ.out.length + 1) {σ σ' : NSt} {l : List PE} (h : NSteps step σ l σ') : σ'.out.length ≤ σ.out.length + l.length := by
 induction h with
 | nil => simp
 | cons h1 _ ih => have := hs _ _ _ h1; simp only [List.length_cons]; omega
mutual
theorem pre_weight : ∀ t : Ty, (pre t).length ≤ t.weight
 | .mk k s args labels o => by
  have := pres_weight args
  unfold pre Ty.weight
  rw [List.length_cons]; omega
theorem pres_weight : ∀ l : List Ty, (pres l).length ≤ weights l
 | [] => by unfold pres weights; simp
 | t :: r => by
  have h1 := pre_weight t
  have h2 := pres_weight r
  unfold pres weights
  rw [List.length_append]; omega
end
theorem TyIn.held {w w' : World} {O : Nat → Prop} {t : Ty} {v : Value} (h : TyIn w O t v) (hO : ∀ b, O b → b < w.heap.size) (hb : Below w.heap.size w w') : TyIn w' O t v := h.keep fun b hbo => hb.block b (hO b hbo)
end Go.Tre
namespace Go.Proofs.YtljmcmdabdlldaaGreatDoor.load
open Go.RowKit Go.Maps Go.Tre
structure NB where
 b5 : Nat
 b3 : Nat
 b4 : Nat
 b2 : Nat
 m3 : Nat
 m4 : Nat
abbrev walkF (B : NB) : Value := .func (.func 33) #[] #[.pointer (some ⟨B.b5, 0, none⟩)]
def namesR (B : NB) (σ : NSt) : List Res := [cellsR B.b5 83 #[walkF B], cellsR B.b3 82 #[.map (some B.m3)], cellsR B.b4 82 #[.map (some B.m4)], cellsR B.b2 26 #[.slice σ.a σ.out.length σ.c],
 setR Tryz.prog 9 B.m3 σ.f, setR Tryz.prog 9 B.m4 σ.g, rowR 9 1 (.slice σ.a σ.out.length σ.c) σ.out.length (σ.out.map fun x => .string ⟨x.toArray⟩)]
set_option maxRecDepth 100000 in
set_option maxHeartbeats 8000000 in
theorem names_go (B : NB) (wb : World) (F : Nat) (caps : Array Value) (hcf : ∀ (args : Array Value) (w : World), (callFunc F args).run Tryz.prog w = .ok (.enter F args) w) (step : NSt → PE → NSt → Prop) (hlen : ∀ σ p σ', step σ p σ' → σ'.out.length ≤ σ.out.length + 1)
  (hdo : ∀ (σ : NSt) (k : Nat) (s : List UInt8) (a2 a3 : Value) (o : Bool) (rs : List Res) (w : World), s.length ≤ 4194304 → σ.out.length ≤ 4194304 → Mem wb w (namesR B σ ++ rs) → Calls Tryz.prog F (#[.agg #[.int .i64 k, .string ⟨s.toArray⟩, a2, a3, .bool o]] ++ caps) w fun e w' => e = .returned (.tuple #[]) ∧ ∃ σ', step σ (k, s) σ' ∧ Mem wb w' (namesR B σ' ++ rs))
  (N : Nat) : ∀ (t : Ty) (O : Nat → Prop) (v : Value) (σ : NSt) (rs : List Res) (w : World), t.weight ≤ N → t.weight + σ.out.length ≤ 4194304 → TyIn wb O t v → (∀ b, O b → b < wb.heap.size) → Mem wb w (namesR B σ ++ rs) →
  Calls Tryz.prog 33 #[v, .func (.func F) #[] caps, .pointer (some ⟨B.b5, 0, none⟩)] w fun e w' => e = .returned (.tuple #[]) ∧ ∃ σ', NSteps step σ (pre t) σ' ∧ Mem wb w' (namesR B σ' ++ rs) := by
 induction N with
 | zero =>
  intro t O v σ rs w h
  have := weight_pos t
  omega
 | succ N ih =>
  intro t O v σ rs w hN hW hT hO hM
  cases hT with
  | @mk _ k s args labels o aa ca al cl V OO hc hl hlab hcell hsub hdis hargs =>
  rw [Ty.weight] at hN hW
  have IH := Tre.hid ih
  have HDO := Tre.hid hdo
  have HLN := Tre.hid hlen
  have HCE := Tre.hid hcell
  have HAR := Tre.hid hargs
  have HO := Tre.hid hO
  have HSU := Tre.hid hsub
  have hal : args.length ≤ 4194304 := Nat.le_trans (weights_len args) (by omega)
  have hwN : weights args ≤ N := by omega
  have hwW : weights args + σ.out.length + 1 ≤ 4194304 := by omega
  have hss : s.length ≤ 4194304 := by omega
  have hso : σ.out.length ≤ 4194304 := by omega
  have M0 := hM.allocR #[.int .i64 k, .string ⟨s.toArray⟩, .slice aa args.length ca, .slice al labels.length cl, .bool o] 28
  have y0 := M0.cell 0 rfl 0 rfl
  have y1 := M0.cell 0 rfl 1 rfl
  have y2 := M0.cell 0 rfl 2 rfl
  have y3 := M0.cell 0 rfl 3 rfl
  have y4 := M0.cell 0 rfl 4 rfl
  have MD : Mem wb (w.alloc (.cells #[.int .i64 k, .string ⟨s.toArray⟩, .slice aa args.length ca, .slice al labels.length cl, .bool o] 28)) (namesR B σ ++ (cellsR w.heap.size 28 #[.int .i64 k, .string ⟨s.toArray⟩, .slice aa args.length ca, .slice al labels.length cl, .bool o] :: rs)) := ((((((M0.front 7 rfl).front 7 rfl).front 7 rfl).front 7 rfl).front 7 rfl).front 7 rfl).front 7 rfl
  have HC := Tre.hid (hdo σ k s (.slice aa args.length ca) (.slice al labels.length cl) o _ _ hss hso MD)
  generalize hbx : w.heap.size = bx at *
  clear ih hdo hlen hcell hargs hO hM hsub hdis hN hW M0 MD hc hl hlab hss hso
  go_enter Tryz.func33, Tryz.ntmps33
  go_wp2_with fail
  refine HC.out.mono ?_
  rintro e w1 ⟨rfl, σ1, hst, M1⟩
  have HS1 : Hid (NSteps step σ [(k, s)] σ1) := .cons hst (.nil _)
  have x2 : w1.cell? ⟨bx, 2, none⟩ = some (.slice aa args.length ca) := M1.cell 7 rfl 2 rfl
  have HM1 := Tre.hid M1
  have hl1 := HLN.out _ _ _ hst
  clear M1 HC hst y0 y1 y2 y3 y4
  go_wp2_with fail
  clear x2
  go_loopw [13] (fun v13 wr => ∃ (j : Nat) (σj : NSt), j ≤ args.length ∧ v13 = .int .i64 j ∧ Hid (NSteps step σ ((k, s) :: pres (args.take j)) σj) ∧ σj.out.length ≤ σ.out.length + 1 + weights (args.take j) ∧ Hid (Mem wb wr (namesR B σj ++ (cellsR bx 28 #[.int .i64 k, .string ⟨s.toArray⟩, .slice aa args.length ca, .slice al labels.length cl, .bool o] :: rs)))) (fun v13 _ => args.length - (intOf v13).toNat)
  case atStart => exact ⟨0, σ1, Nat.zero_le _, rfl, HS1.out, by omega, HM1.out⟩
  case round =>
   clear HM1 HS1 hl1
   obtain ⟨j, σj, hj, rfl, HSJ, hoj, HM⟩ := hrel
   by_cases hlt : j < args.length
   ·obtain ⟨tj, htj⟩ : ∃ tj, args[j]? = some tj := ⟨_, List.getElem?_eq_getElem hlt⟩
    obtain ⟨b, off, rfl, hob, _, hno, h5, hcc⟩ := HCE.out j hlt
    have hTj := HAR.out j tj htj
    obtain ⟨aj, cj, alj, clj, ej, _, _⟩ := hTj.agg
    have eV : V j = #[.int .i64 tj.kind, .string ⟨tj.s.toArray⟩, .slice aj tj.args.length cj, .slice alj tj.labels.length clj, .bool tj.opn] := by injection ej
    have hcell : ∀ (q : Nat) (u : Value), (V j)[q]? = some u → wr.cell? ⟨b, off + j * 5 + q, none⟩ = some u := fun q u hu => cell_below HM.out.below (hcc q u hu)
    rw [eV] at hcell hTj
    have z0 : wr.cell? ⟨b, off + j * 5, none⟩ = some (.int .i64 tj.kind) := hcell 0 _ rfl
    have z1 := hcell 1 (.string ⟨tj.s.toArray⟩) rfl
    have z2 := hcell 2 (.slice aj tj.args.length cj) rfl
    have z3 := hcell 3 (.slice alj tj.labels.length clj) rfl
    have z4 := hcell 4 (.bool tj.opn) rfl
    have htake : args.take (j + 1) = args.take j ++ [tj] := by rw [List.take_add_one, htj]; rfl
    have hwt : weights (args.take j) + tj.weight ≤ weights args := by
     have hsplit : ∀ l m : List Ty, weights (l ++ m) = weights l + weights m := fun l m => by
      induction l with
      | nil => simp [weights]
      | cons x l ih => simp only [List.cons_append, weights, ih]; omega
     have h1 := hsplit (args.take (j + 1)) (args.drop (j + 1))
     rw [List.take_append_drop, htake, hsplit] at h1
     simp only [weights] at h1
     omega
    have hpt : pres (args.take (j + 1)) = pres (args.take j) ++ pre tj := by
     have hsplit : ∀ l m : List Ty, pres (l ++ m) = pres l ++ pres m := fun l m => by
      induction l with
      | nil => simp [pres]
      | cons x l ih => simp only [List.cons_append, pres, ih, List.append_assoc]
     rw [htake, hsplit]; simp [pres]
    have hwt2 : weights (args.take (j + 1)) = weights (args.take j) + tj.weight := by
     have hsplit : ∀ l m : List Ty, weights (l ++ m) = weights l + weights m := fun l m => by
      induction l with
      | nil => simp [weights]
      | cons x l ih => simp only [List.cons_append, weights, ih]; omega
     rw [htake, hsplit]; simp [weights]
    have M3 := HM.out.allocR #[.int .i64 tj.kind, .string ⟨tj.s.toArray⟩, .slice aj tj.args.length cj, .slice alj tj.labels.length clj, .bool tj.opn] 28
    have f5 : (wr.alloc (.cells #[.int .i64 tj.kind, .string ⟨tj.s.toArray⟩, .slice aj tj.args.length cj, .slice alj tj.labels.length clj, .bool tj.opn] 28)).cell? ⟨B.b5, 0, none⟩ = some (walkF B) := M3.cell 1 rfl 0 rfl
    have HC := Tre.hid (IH.out tj (OO j) _ σj _ _ (by omega) (by omega) hTj (fun b hb => HO.out b (HSU.out j b hb)) M3.drop1)
    have HPT := Tre.hid hpt
    have hpw := pre_weight tj
    clear HM hcc hcell hTj ej eV hob hno h5 htake hpt M3 htj
    go_wp2_with fail
    refine HC.out.mono ?_
    rintro e w2 ⟨rfl, σ2, hs2, M2⟩
    have HM2 := Tre.hid M2
    have HS2 : Hid (NSteps step σ ((k, s) :: pres (args.take (j + 1))) σ2) := by
     show NSteps _ _ _ _
     rw [HPT.out]
     exact HSJ.out.app hs2
    have hl2 := hs2.len HLN.out
    clear M2 HC hs2 HSJ f5 z0 z1 z2 z3 z4
    go_wp2_with fail
    go_roundw
    case rel => exact ⟨j + 1, σ2, by omega, by go_num, HS2.out, by omega, HM2.out⟩
    case measure => simp [intOf]; omega
   ·have e : args.take j = args := List.take_of_length_le (by omega)
    have hs := HSJ.out
    rw [e] at hs
    have HSS := Tre.hid hs
    clear hs HSJ e
    go_wp2_with fail
    go_end0
    refine ⟨rfl, σj, ?_, ?_⟩
    ·rw [pre]; exact HSS.out
    ·have h := HM.out.del 7
     exact h
end Go.Proofs.YtljmcmdabdlldaaGreatDoor.load
namespace Go.Tre
open Go.RowKit Go.Maps
def step2 (σ : NSt) (p : PE) (σ' : NSt) : Prop := σ' = { σ with f := updB σ.f ⟨p.2.toArray⟩ (σ.f ⟨p.2.toArray⟩ || decide (p.1 = 4)) }
def step3 (σ : NSt) (p : PE) (σ' : NSt) : Prop := (p.1 = 1 ∧ σ.f ⟨p.2.toArray⟩ = false ∧ σ.g ⟨p.2.toArray⟩ = false ∧ σ'.f = σ.f ∧ σ'.g = updB σ.g ⟨p.2.toArray⟩ true ∧ σ'.out = σ.out ++ [p.2]) ∨ (¬ (p.1 = 1 ∧ σ.f ⟨p.2.toArray⟩ = false ∧ σ.g ⟨p.2.toArray⟩ = false) ∧ σ' = σ)
theorem step2_len (σ : NSt) (p : PE) (σ' : NSt) (h : step2 σ p σ') : σ'.out.length ≤ σ.out.length + 1 := by
 unfold step2 at h
 subst h
 exact Nat.le_succ _
theorem step3_len (σ : NSt) (p : PE) (σ' : NSt) (h : step3 σ p σ') : σ'.out.length ≤ σ.out.length + 1 := by
 rcases h with ⟨_, _, _, _, _, h⟩ | ⟨_, h⟩
 ·rw [h]; simp
 ·rw [h]; omega
theorem steps2_all {σ σ' : NSt} {l : List PE} (h : NSteps step2 σ l σ') : σ'.g = σ.g ∧ σ'.out = σ.out ∧ σ'.a = σ.a ∧ σ'.c = σ.c ∧ ∀ s, σ'.f s = (σ.f s || boundB l s) := by
 induction h with
 | nil => exact ⟨rfl, rfl, rfl, rfl, fun s => by simp [boundB]⟩
 | @cons σ σ1 σ2 p l h1 _ ih =>
  unfold step2 at h1
  subst h1
  obtain ⟨e1, e2, e3, e4, e5⟩ := ih
  refine ⟨e1, e2, e3, e4, fun s => ?_⟩
  rw [e5 s]
  have hb : boundB (p :: l) s = ((decide (p.1 = 4) && decide (s = ⟨p.2.toArray⟩)) || boundB l s) := rfl
  rw [hb]
  show (updB σ.f ⟨p.2.toArray⟩ (σ.f ⟨p.2.toArray⟩ || decide (p.1 = 4)) s || boundB l s) = _
  unfold updB
  by_cases q : s = ⟨p.2.toArray⟩
  ·rw [if_pos q, q]; simp [Bool.or_assoc]
  ·rw [if_neg q]; simp [q]
theorem arr_eq {a b : List UInt8} : ((⟨a.toArray⟩ : ByteArray) = ⟨b.toArray⟩) ↔ a = b :=
 ⟨fun h => by
  have := congrArg (fun x : ByteArray => x.data.toList) h
  simpa using this, fun h => by rw [h]⟩
theorem steps3_all {σ σ' : NSt} {l : List PE} (h : NSteps step3 σ l σ') : (∀ s : List UInt8, σ.g ⟨s.toArray⟩ = decide (s ∈ σ.out)) → σ'.f = σ.f ∧ σ'.out = namesF σ.f l σ.out := by
 induction h with
 | nil => exact fun _ => ⟨rfl, by rw [namesF]⟩
 | @cons σ σ1 σ2 p l h1 _ ih =>
  intro hg
  rcases h1 with ⟨k1, k2, k3, e1, e2, e3⟩ | ⟨hn, rfl⟩
  ·have hn : p.2 ∉ σ.out := fun hm => by rw [hg, decide_eq_true hm] at k3; cases k3
   obtain ⟨i1, i2⟩ := ih (fun s => by
    rw [e2, e3]
    unfold updB
    by_cases q : s = p.2
    ·rw [if_pos (arr_eq.2 q)]; simp [q]
    ·rw [if_neg (fun h => q (arr_eq.1 h)), hg]; simp [q])
   refine ⟨i1.trans e1, ?_⟩
   rw [i2, e1, e3, namesF, if_pos ⟨k1, k2, hn⟩]
  ·obtain ⟨i1, i2⟩ := ih hg
   refine ⟨i1, ?_⟩
   rw [i2, namesF, if_neg]
   rintro ⟨k1, k2, k3⟩
   exact hn ⟨k1, k2, by rw [hg, decide_eq_false k3]⟩
end Go.Tre
namespace Go.Proofs.YtljmcmdabdlldaaGreatDoor.load
open Go.RowKit Go.Maps Go.Tre
theorem zb (w : World) : (zeroValue 4).run Tryz.prog w = .ok (.bool false) w := by kernel_rfl
set_option maxRecDepth 100000 in
set_option maxHeartbeats 8000000 in
theorem names2 (B : NB) (wb : World) (σ : NSt) (k : Nat) (s : List UInt8) (a2 a3 : Value) (o : Bool) (rs : List Res) (w : World) (hs : s.length ≤ 4194304) (_ : σ.out.length ≤ 4194304) (hM : Mem wb w (namesR B σ ++ rs)) :
  Calls Tryz.prog 34 (#[.agg #[.int .i64 k, .string ⟨s.toArray⟩, a2, a3, .bool o]] ++ #[.pointer (some ⟨B.b3, 0, none⟩)]) w fun e w' => e = .returned (.tuple #[]) ∧ ∃ σ', step2 σ (k, s) σ' ∧ Mem wb w' (namesR B σ' ++ rs) := by
 have M0 := hM.allocR #[.int .i64 k, .string ⟨s.toArray⟩, a2, a3, .bool o] 28
 have y0 : (w.alloc (.cells #[.int .i64 k, .string ⟨s.toArray⟩, a2, a3, .bool o] 28)).cell? ⟨w.heap.size, 0, none⟩ = some (.int .i64 k) := M0.cell 0 rfl 0 rfl
 have y1 : (w.alloc (.cells #[.int .i64 k, .string ⟨s.toArray⟩, a2, a3, .bool o] 28)).cell? ⟨w.heap.size, 1, none⟩ = some (.string ⟨s.toArray⟩) := M0.cell 0 rfl 1 rfl
 have c3 : (w.alloc (.cells #[.int .i64 k, .string ⟨s.toArray⟩, a2, a3, .bool o] 28)).cell? ⟨B.b3, 0, none⟩ = some (.map (some B.m3)) := M0.cell 2 rfl 0 rfl
 have hlk := set_look (M0.at_ 5 rfl) KS Tryz.underlying82 zb (kyS s hs)
 obtain ⟨wz, hput, MZ⟩ := M0.putSet 5 rfl KS Tryz.underlying82 (kyS s hs) (σ.f ⟨s.toArray⟩ || decide (k = 4))
 have HZ := Tre.hid (MZ.drop1 : Mem wb wz (namesR B { σ with f := updB σ.f ⟨s.toArray⟩ (σ.f ⟨s.toArray⟩ || decide (k = 4)) } ++ rs))
 generalize hfs : σ.f ⟨s.toArray⟩ = fs at *
 have HFS := Tre.hid hfs
 clear hM M0 MZ hfs
 cases fs with
 | true =>
  simp only [Bool.true_or] at hput
  go_enter Tryz.func34, Tryz.ntmps34
  go_wp2_with fail
  go_end0
  exact ⟨rfl, { σ with f := updB σ.f ⟨s.toArray⟩ (true || decide (k = 4)) }, by unfold step2; rw [HFS.out], HZ.out⟩
 | false =>
  by_cases hk : k = 4
  ·have ek : ((k : Int) == 4) = true := by rw [hk]; rfl
   simp only [Bool.false_or, decide_eq_true hk] at hput
   clear hk
   go_enter Tryz.func34, Tryz.ntmps34
   go_wp2_with fail
   go_end0
   exact ⟨rfl, { σ with f := updB σ.f ⟨s.toArray⟩ (false || decide (k = 4)) }, by unfold step2; rw [HFS.out], HZ.out⟩
  ·have ek : ((k : Int) == 4) = false := beq_eq_false_iff_ne.2 (by omega)
   simp only [Bool.false_or, decide_eq_false hk] at hput
   clear hk
   go_enter Tryz.func34, Tryz.ntmps34
   go_wp2_with fail
   go_end0
   exact ⟨rfl, { σ with f := updB σ.f ⟨s.toArray⟩ (false || decide (k = 4)) }, by unfold step2; rw [HFS.out], HZ.out⟩
theorem infoSt : (Tryz.prog.info? 9).map (fun i => (i.zero, i.size, i.bytes)) = some (some (.string ⟨#[]⟩), 1, 16) := by kernel_rfl
set_option maxRecDepth 100000 in
set_option maxHeartbeats 8000000 in
theorem names3 (B : NB) (wb : World) (σ : NSt) (k : Nat) (s : List UInt8) (a2 a3 : Value) (o : Bool) (rs : List Res) (w : World) (hs : s.length ≤ 4194304) (hol : σ.out.length ≤ 4194304) (hM : Mem wb w (namesR B σ ++ rs)) :
  Calls Tryz.prog 35 (#[.agg #[.int .i64 k, .string ⟨s.toArray⟩, a2, a3, .bool o]] ++ #[.pointer (some ⟨B.b3, 0, none⟩), .pointer (some ⟨B.b4, 0, none⟩), .pointer (some ⟨B.b2, 0, none⟩)]) w fun e w' => e = .returned (.tuple #[]) ∧ ∃ σ', step3 σ (k, s) σ' ∧ Mem wb w' (namesR B σ' ++ rs) := by
 obtain ⟨f, g, out, a, c⟩ := σ
 have M0 := hM.allocR #[.int .i64 k, .string ⟨s.toArray⟩, a2, a3, .bool o] 28
 have y0 : (w.alloc (.cells #[.int .i64 k, .string ⟨s.toArray⟩, a2, a3, .bool o] 28)).cell? ⟨w.heap.size, 0, none⟩ = some (.int .i64 k) := M0.cell 0 rfl 0 rfl
 have y1 : (w.alloc (.cells #[.int .i64 k, .string ⟨s.toArray⟩, a2, a3, .bool o] 28)).cell? ⟨w.heap.size, 1, none⟩ = some (.string ⟨s.toArray⟩) := M0.cell 0 rfl 1 rfl
 have c3 : (w.alloc (.cells #[.int .i64 k, .string ⟨s.toArray⟩, a2, a3, .bool o] 28)).cell? ⟨B.b3, 0, none⟩ = some (.map (some B.m3)) := M0.cell 2 rfl 0 rfl
 have c4 : (w.alloc (.cells #[.int .i64 k, .string ⟨s.toArray⟩, a2, a3, .bool o] 28)).cell? ⟨B.b4, 0, none⟩ = some (.map (some B.m4)) := M0.cell 3 rfl 0 rfl
 have hlk := set_look (M0.at_ 5 rfl) KS Tryz.underlying82 zb (kyS s hs)
 have hlk2 := set_look (M0.at_ 6 rfl) KS Tryz.underlying82 zb (kyS s hs)
 have HM0 := Tre.hid M0
 obtain ⟨ji, J1, J2, J3, J4⟩ := info_parts infoSt
 have HJ2 := Tre.hid J2
 have HJ3 := Tre.hid J3
 have HJ4 := Tre.hid J4
 have HKS : Hid (keyOf Tryz.prog 9 (.string ⟨s.toArray⟩) = some (.string s)) := kyS s hs
 simp only at hlk hlk2 hol
 generalize hfs : f ⟨s.toArray⟩ = fs at *
 generalize hgs : g ⟨s.toArray⟩ = gs at *
 have HFS := Tre.hid hfs
 have HGS := Tre.hid hgs
 clear hM M0 hfs hgs J2 J3 J4
 by_cases hk : k = 1
 ·have ek : ((k : Int) == 1) = true := by rw [hk]; rfl
  have HK1 := Tre.hid hk
  clear hk
  cases fs with
  | true =>
   go_enter Tryz.func35, Tryz.ntmps35
   go_wp2_with fail
   go_end0
   exact ⟨rfl, _, .inr ⟨fun h => (by have := h.2.1; simp only at this; rw [HFS.out] at this; cases this), rfl⟩, HM0.out.drop1⟩
  | false =>
   cases gs with
   | true =>
    go_enter Tryz.func35, Tryz.ntmps35
    go_wp2_with fail
    go_end0
    exact ⟨rfl, _, .inr ⟨fun h => (by have := h.2.2; simp only at this; rw [HGS.out] at this; cases this), rfl⟩, HM0.out.drop1⟩
   | false =>
    obtain ⟨wz, hput, MZ⟩ := HM0.out.putSet 6 rfl KS Tryz.underlying82 HKS.out true
    have d2 : wz.cell? ⟨B.b2, 0, none⟩ = some (.slice a out.length c) := MZ.cell 4 rfl 0 rfl
    have q1 : wz.cell? ⟨w.heap.size, 1, none⟩ = some (.string ⟨s.toArray⟩) := MZ.cell 0 rfl 1 rfl
    have HMB := Tre.hid (MZ.allocRow #[.string ⟨s.toArray⟩] 9 1 1 (by unfold maxLen; omega) rfl)
    clear MZ HM0
    go_enter Tryz.func35, Tryz.ntmps35
    go_wp2_with (at_builtin; refine wpList_append_row _ rfl _ _ 26 rfl 9 ji _ 1 16 Tryz.underlying26 J1 HJ2.out HJ3.out HJ4.out rfl (by omega) (.slice a out.length c) out.length (out.map fun x => .string ⟨x.toArray⟩) rfl (HMB.out.row 8 rfl) (some ⟨wz.heap.size, 0, none⟩) 1 1 [.string ⟨s.toArray⟩] rfl ⟨rfl, fun j u hj => ⟨_, 0, rfl, by rw [Nat.zero_add]; exact HMB.out.cellAt 0 rfl j hj⟩⟩ (by simp [Value.oneCell']) (by unfold maxLen; omega) (by omega) ?_; intro v9 w9 hown9 hgrow9 hat9; have M9 := HMB.out.grow 8 rfl hgrow9 hown9 hat9; obtain ⟨a9, c9, rfl, _⟩ := M9.val 8 rfl; have f6 := M9.free 5 rfl 0; have q6 : w9.cell? ⟨B.b2, 0, none⟩ = some (.slice a out.length c) := M9.cell 5 rfl 0 rfl; have HM9 := Tre.hid (M9.setCell 5 rfl 0 (.slice a9 (out.length + 1) c9)); clear M9 hown9 hgrow9 hat9)
    go_end0
    refine ⟨rfl, ⟨f, updB g ⟨s.toArray⟩ true, out ++ [s], a9, c9⟩, .inl ⟨HK1.out, HFS.out, HGS.out, rfl, rfl, rfl⟩, ?_⟩
    have h := (HM9.out.del 0).del 0
    have e1 : (out ++ [s]).length = out.length + 1 := by simp
    have e2 : (out ++ [s]).map (fun x => Value.string ⟨x.toArray⟩) = out.map (fun x => Value.string ⟨x.toArray⟩) ++ [.string ⟨s.toArray⟩] := by simp
    unfold namesR
    simp only
    rw [e1, e2]
    exact h
 ·have ek : ((k : Int) == 1) = false := beq_eq_false_iff_ne.2 (by omega)
  have HK1 : Hid (¬ k = 1) := hk
  clear hk
  go_enter Tryz.func35, Tryz.ntmps35
  go_wp2_with fail
  go_end0
  exact ⟨rfl, _, .inr ⟨fun h => HK1.out h.1, rfl⟩, HM0.out.drop1⟩
end Go.Proofs.YtljmcmdabdlldaaGreatDoor.load
namespace Go.Proofs.YtljmcmdabdlldaaGreatDoor.load
open Go.RowKit Go.Maps Go.Tre tree
theorem hcf34 (args : Array Value) (w : World) : (callFunc 34 args).run Tryz.prog w = .ok (.enter 34 args) w := by kernel_rfl
theorem hcf35 (args : Array Value) (w : World) : (callFunc 35 args).run Tryz.prog w = .ok (.enter 35 args) w := by kernel_rfl
set_option maxRecDepth 100000 in
set_option maxHeartbeats 16000000 in
theorem Names_any (t : Ty) (O : Nat → Prop) (v : Value) (w : World) (hT : TyIn w O t v) (hO : ∀ b, O b → b < w.heap.size) (hv : verdictI (walkT t) = 0) (hw : t.weight ≤ 1000000) (hm : MaxAt w) :
  Calls Tryz.prog 14 #[v] w fun e w' => ∃ a c, e = .returned (.slice a (namesL t).length c) ∧ Mem w w' [rowR 9 1 (.slice a (namesL t).length c) (namesL t).length ((namesL t).map fun x => .string ⟨x.toArray⟩)] := by
 obtain ⟨aa, ca, al, cl, rfl, _, _⟩ := hT.agg
 have hmm := @run_makeMap Tryz.prog
 have M0 := ((Mem.nil w).allocR #[.int .i64 t.kind, .string ⟨t.s.toArray⟩, .slice aa t.args.length ca, .slice al t.labels.length cl, .bool t.opn] 28).allocR #[.slice none 0 0] 26
 rw [World.size_alloc] at M0
 have HC := Tre.hid (check_type t O _ _ (by omega) (hT.under hO M0.below) (fun b hb => Nat.lt_of_lt_of_le (hO b hb) M0.below.size) (hm.below M0.below))
 rw [hv] at HC
 have y0 := M0.cell 1 rfl 0 rfl
 have y1 := M0.cell 1 rfl 1 rfl
 have y2 := M0.cell 1 rfl 2 rfl
 have y3 := M0.cell 1 rfl 3 rfl
 have y4 := M0.cell 1 rfl 4 rfl
 have HM0 := Tre.hid M0
 have HT := Tre.hid hT
 have HO := Tre.hid hO
 have HW := Tre.hid hw
 clear M0 hT hO hv hw hm
 go_enter Tryz.func14, Tryz.ntmps14
 go_wp2_with fail
 refine HC.out.mono ?_
 rintro e w1 ⟨rfl, b1⟩
 have HM1 := Tre.hid (HM0.out.quiet b1)
 clear HC HM0 b1 y0 y1 y2 y3 y4
 have MC := ((((HM1.out.allocSet Tryz.prog 9).allocSet Tryz.prog 9).allocR #[.map (some w1.heap.size)] 82).allocR #[.map (some (w1.heap.size + 1))] 82).allocR #[.nilFunc] 83
 simp only [World.size_alloc] at MC
 have n0 := MC.cell 0 rfl 0 rfl
 have nf := MC.free 0 rfl 0
 have MD := ((((HM1.out.allocSet Tryz.prog 9).allocSet Tryz.prog 9).allocR #[.map (some w1.heap.size)] 82).allocR #[.map (some (w1.heap.size + 1))] 82).allocR #[.func (.func 33) #[] #[.pointer (some ⟨w1.heap.size + 1 + 1 + 1 + 1, 0, none⟩)]] 83
 simp only [World.size_alloc] at MD
 have ME := (((((((MD.addNil 9 1).front 4 rfl).front 5 rfl).front 6 rfl).front 5 rfl).front 6 rfl).front 6 rfl)
 have HME := Tre.hid ME
 have x0 := MD.cell 6 rfl 0 rfl
 have x1 := MD.cell 6 rfl 1 rfl
 have x2 := MD.cell 6 rfl 2 rfl
 have x3 := MD.cell 6 rfl 3 rfl
 have x4 := MD.cell 6 rfl 4 rfl
 have x5 := MD.cell 0 rfl 0 rfl
 clear MC MD ME
 go_wp2_with fail
 clear x0 x1 x2 x3 x4 x5 n0 nf
 generalize hW : (((((w1.alloc (.map #[] 0)).alloc (.map #[] 0)).alloc (.cells #[.map (some w1.heap.size)] 82)).alloc (.cells #[.map (some (w1.heap.size + 1))] 82)).alloc (.cells #[.func (.func 33) #[] #[.pointer (some ⟨w1.heap.size + 1 + 1 + 1 + 1, 0, none⟩)]] 83)) = W at HME ⊢
 generalize w1.heap.size + 1 + 1 + 1 + 1 = b5 at *
 generalize w1.heap.size + 1 + 1 + 1 = b4 at *
 generalize w1.heap.size + 1 + 1 = b3 at *
 generalize w1.heap.size + 1 = m4 at *
 generalize w1.heap.size = m3 at *
 generalize w.heap.size + 1 = b2 at *
 generalize hbt : w.heap.size = bt at *
 clear hW
 have MS : Mem w W (namesR ⟨b5, b3, b4, b2, m3, m4⟩ ⟨fun _ => false, fun _ => false, [], none, 0⟩ ++ [cellsR bt 28 #[.int .i64 t.kind, .string ⟨t.s.toArray⟩, .slice aa t.args.length ca, .slice al t.labels.length cl, .bool t.opn]]) := HME.out
 rw [← hbt] at HO
 have HG := Tre.hid (names_go ⟨b5, b3, b4, b2, m3, m4⟩ w 34 #[.pointer (some ⟨b3, 0, none⟩)] hcf34 step2 step2_len (fun σ k s a2 a3 o rs W hs ho hM => names2 _ w σ k s a2 a3 o rs W hs ho hM) t.weight t O _ ⟨fun _ => false, fun _ => false, [], none, 0⟩ [cellsR bt 28 #[.int .i64 t.kind, .string ⟨t.s.toArray⟩, .slice aa t.args.length ca, .slice al t.labels.length cl, .bool t.opn]] W (Nat.le_refl _) (by have := HW.out; show t.weight + 0 ≤ _; omega) HT.out HO.out MS)
 clear HME MS
 refine HG.out.mono ?_
 rintro e w2 ⟨rfl, σ1, hs1, M1⟩
 obtain ⟨e1, e2, e3, e4, e5⟩ := steps2_all hs1
 obtain ⟨f1, g1, o1, a1, c1⟩ := σ1
 simp only at e1 e2 e3 e4 e5
 subst e1 e2 e3 e4
 have hf1 : f1 = boundB (pre t) := funext fun s => by rw [e5 s, Bool.false_or]
 subst hf1
 have HG2 := Tre.hid (names_go ⟨b5, b3, b4, b2, m3, m4⟩ w 35 #[.pointer (some ⟨b3, 0, none⟩), .pointer (some ⟨b4, 0, none⟩), .pointer (some ⟨b2, 0, none⟩)] hcf35 step3 step3_len (fun σ k s a2 a3 o rs W hs ho hM => names3 _ w σ k s a2 a3 o rs W hs ho hM) t.weight t O _ ⟨boundB (pre t), fun _ => false, [], none, 0⟩ [cellsR bt 28 #[.int .i64 t.kind, .string ⟨t.s.toArray⟩, .slice aa t.args.length ca, .slice al t.labels.length cl, .bool t.opn]] w2 (Nat.le_refl _) (by have := HW.out; show t.weight + 0 ≤ _; omega) HT.out HO.out M1)
 have x0 : w2.cell? ⟨bt, 0, none⟩ = some (.int .i64 t.kind) := M1.cell 7 rfl 0 rfl
 have x1 : w2.cell? ⟨bt, 1, none⟩ = some (.string ⟨t.s.toArray⟩) := M1.cell 7 rfl 1 rfl
 have x2 : w2.cell? ⟨bt, 2, none⟩ = some (.slice aa t.args.length ca) := M1.cell 7 rfl 2 rfl
 have x3 : w2.cell? ⟨bt, 3, none⟩ = some (.slice al t.labels.length cl) := M1.cell 7 rfl 3 rfl
 have x4 : w2.cell? ⟨bt, 4, none⟩ = some (.bool t.opn) := M1.cell 7 rfl 4 rfl
 have x5 : w2.cell? ⟨b5, 0, none⟩ = some (walkF ⟨b5, b3, b4, b2, m3, m4⟩) := M1.cell 0 rfl 0 rfl
 clear HG hs1 M1 e5
 go_wp2_with fail
 refine HG2.out.mono ?_
 rintro e w3 ⟨rfl, σ2, hs2, M2⟩
 obtain ⟨e1, e2⟩ := steps3_all hs2 (fun s => by simp)
 obtain ⟨f2, g2, o2, a2, c2⟩ := σ2
 simp only at e1 e2
 have hN : o2 = namesL t := e2
 subst hN
 have q2 : w3.cell? ⟨b2, 0, none⟩ = some (.slice a2 (namesL t).length c2) := M2.cell 3 rfl 0 rfl
 have f2 := M2.free 3 rfl 0
 have HM2 := Tre.hid M2
 have HM9 := Tre.hid (M2.setCell 3 rfl 0 (.slice a2 (namesL t).length c2))
 clear HG2 hs2 M2 e1 e2 x0 x1 x2 x3 x4 x5
 go_wp2_with fail
 generalize w3.setCell ⟨b2, 0, none⟩ (.slice a2 (namesL t).length c2) = wz at HM9 ⊢
 have z0 : wz.cell? ⟨b2, 0, none⟩ = some (.slice a2 (namesL t).length c2) := HM9.out.cell 3 rfl 0 rfl
 refine bodyPost_ret (v := .slice a2 (namesL t).length c2) (by simp [results, Tryz.results14, go_sem, z0]) rfl ?_
 refine ⟨a2, c2, rfl, ?_⟩
 have h := HM9.out.front 6 rfl
 exact h.sub (List.Sublist.cons_cons _ (List.nil_sublist _))
end Go.Proofs.YtljmcmdabdlldaaGreatDoor.load
namespace Go.Tre
structure Sim (T T' : List Ent) (φ : Nat → Nat) (ν : List UInt8 → List UInt8) : Prop where
 at_ : ∀ (i : Nat) (e : Ent), T[i]? = some e → ∃ e' : Ent, T'[φ i]? = some e' ∧ e'.kind = e.kind ∧ e'.args = e.args.map φ ∧ e'.labels = e.labels ∧ e'.opn = e.opn ∧ e'.s = (if e.kind = 1 ∨ e.kind = 4 then ν e.s else e.s)
 inj : ∀ x y, φ x = φ y → x = y
 names : ∀ s u, ν s = ν u → s = u
section
variable {T T' : List Ent} {φ : Nat → Nat} {ν : List UInt8 → List UInt8}
def BRel (T : List Ent) (φ : Nat → Nat) (ν : List UInt8 → List UInt8) (bd bd' : ByteArray → Option Nat) : Prop := ∀ (i : Nat) (e : Ent), T[i]? = some e → (e.kind = 1 ∨ e.kind = 4) → bd' ⟨(ν e.s).toArray⟩ = (bd ⟨e.s.toArray⟩).map φ
theorem sim_follow (S : Sim T T' φ ν) {bd bd' : ByteArray → Option Nat} (hb : BRel T φ ν bd bd') : ∀ {m i r : Nat}, follow1 T bd m i = some r → follow1 T' bd' m (φ i) = some (φ r) := by
 intro m
 induction m with
 | zero => intro i r h; rw [follow1] at h; cases h
 | succ m ih =>
  intro i r h
  rw [follow1] at h ⊢
  obtain ⟨e, he, h⟩ := Option.bind_eq_some_iff.1 h
  obtain ⟨e', he', e1, e2, _, _, e5⟩ := S.at_ i e he
  rw [he', Option.bind_some, e1]
  by_cases h4 : e.kind = 4
  ·rw [if_pos h4] at h ⊢
   obtain ⟨x, hx, h⟩ := Option.bind_eq_some_iff.1 h
   rw [e2, List.getElem?_map, hx, zqd, Option.bind_some]
   exact ih h
  ·rw [if_neg h4] at h ⊢
   by_cases h1 : e.kind = 1
   ·rw [if_pos h1] at h ⊢
    rw [e5, if_pos (show e.kind = 1 ∨ e.kind = 4 from .inl h1), hb i e he (.inl h1)]
    cases hbd : bd ⟨e.s.toArray⟩ with
    | none => rw [hbd] at h; cases h; rfl
    | some b => rw [hbd] at h; exact ih h
   ·rw [if_neg h1] at h ⊢
    cases h; rfl
theorem sim_bind (S : Sim T T' φ ν) (c : Nat) : ∀ (K i : Nat) (bd bd1 bd' : Bd), bind1 T K i bd = some bd1 → BRel T φ ν bd.1 bd'.1 → bd'.2 = bd.2 + c → ∃ bd1', bind1 T' K (φ i) bd' = some bd1' ∧ BRel T φ ν bd1.1 bd1'.1 ∧ bd1'.2 = bd1.2 + c := by
 intro K
 induction K with
 | zero => intro i bd bd1 bd' h; rw [bind1] at h; cases h
 | succ K ih =>
  intro i bd bd1 bd' h hr hc
  rw [bind1] at h
  obtain ⟨e, he, h⟩ := Option.bind_eq_some_iff.1 h
  obtain ⟨bd2, hst, hfo⟩ := Option.bind_eq_some_iff.1 h
  obtain ⟨e', he', e1, e2, _, _, e5⟩ := S.at_ i e he
  have hstep : ∃ bd2', stepB e' (φ i) bd' = some bd2' ∧ BRel T φ ν bd2.1 bd2'.1 ∧ bd2'.2 = bd2.2 + c := by
   unfold stepB at hst ⊢
   rw [e1]
   by_cases h4 : e.kind = 4
   ·rw [if_pos h4] at hst ⊢
    rw [e5, if_pos (show e.kind = 1 ∨ e.kind = 4 from .inr h4), hr i e he (.inr h4)]
    cases hbd : bd.1 ⟨e.s.toArray⟩ with
    | some x => rw [hbd] at hst; simp at hst
    | none =>
     rw [hbd] at hst
     simp at hst
     subst hst
     simp only [Option.map_none, Option.isSome_none, Bool.false_eq_true, if_false]
     refine ⟨_, rfl, fun j f hf hk => ?_, by simp only; omega⟩
     by_cases q : f.s = e.s
     ·rw [q]; simp [upd]
     ·have q1 : (⟨(ν f.s).toArray⟩ : ByteArray) ≠ ⟨(ν e.s).toArray⟩ := fun h => q (S.names _ _ (arr_inj h))
      have q2 : (⟨f.s.toArray⟩ : ByteArray) ≠ ⟨e.s.toArray⟩ := fun h => q (arr_inj h)
      show upd bd'.1 ⟨(ν e.s).toArray⟩ (φ i) ⟨(ν f.s).toArray⟩ = _
      rw [upd_ne _ _ q1, upd_ne _ _ q2]
      exact hr j f hf hk
   ·rw [if_neg h4] at hst ⊢
    cases hst
    exact ⟨_, rfl, hr, hc⟩
  obtain ⟨bd2', hs1, hs2, hs3⟩ := hstep
  have key : ∀ (l : List Nat) (b b1 b' : Bd), l.foldlM (fun bd j => bind1 T K j bd) b = some b1 → BRel T φ ν b.1 b'.1 → b'.2 = b.2 + c → ∃ b1', (l.map φ).foldlM (fun bd j => bind1 T' K j bd) b' = some b1' ∧ BRel T φ ν b1.1 b1'.1 ∧ b1'.2 = b1.2 + c := by
   intro l
   induction l with
   | nil => intro b b1 b' h hr hc; rw [List.foldlM_nil] at h; cases h; exact ⟨b', rfl, hr, hc⟩
   | cons j l ihl =>
    intro b b1 b' h hr hc
    rw [List.foldlM_cons] at h
    obtain ⟨b3, h3, h4⟩ := Option.bind_eq_some_iff.1 h
    obtain ⟨b3', k1, k2, k3⟩ := ih j b b3 b' h3 hr hc
    obtain ⟨b1', m1, m2, m3⟩ := ihl b3 b1 b3' h4 k2 k3
    refine ⟨b1', ?_, m2, m3⟩
    rw [List.map_cons, List.foldlM_cons]
    show (bind1 T' K (φ j) b').bind _ = _
    rw [k1, Option.bind_some]; exact m1
  obtain ⟨b1', k1, k2, k3⟩ := key e.args bd2 bd1 bd2' hfo hs2 hs3
  refine ⟨b1', ?_, k2, k3⟩
  rw [bind1, he', Option.bind_some, hs1, Option.bind_some, e2]
  exact k1
structure SRel (T : List Ent) (φ : Nat → Nat) (ν : List UInt8 → List UInt8) (st st' : LSt) : Prop where
 ns : st'.ns = st.ns
 vars : ∀ (i : Nat) (e : Ent), T[i]? = some e → e.kind = 1 → st'.vars ⟨(ν e.s).toArray⟩ = st.vars ⟨e.s.toArray⟩
 made : ∀ x, st'.made (φ x) = st.made x
theorem sim_node (S : Sim T T' φ ν) {bd bd' : Bd} (hb : BRel T φ ν bd.1 bd'.1) (hn : bd.2 ≤ bd'.2) : ∀ (K i : Nat) (st st1 st' : LSt) (a : Nat), node1 T bd K i st = some (a, st1) → SRel T φ ν st st' → ∃ st1', node1 T' bd' K (φ i) st' = some (a, st1') ∧ SRel T φ ν st1 st1' := by
 intro K
 induction K with
 | zero => intro i st st1 st' a h; rw [node1] at h; cases h
 | succ K ih =>
  intro i st st1 st' a h hr
  rw [node1] at h
  obtain ⟨x, hx, h⟩ := Option.bind_eq_some_iff.1 h
  obtain ⟨e, he, h⟩ := Option.bind_eq_some_iff.1 h
  obtain ⟨e', he', e1, e2, e3, e4, e5⟩ := S.at_ x e he
  have hx' := follow_mono (m' := 2 * bd'.2 + 2) (by omega) (sim_follow S hb hx)
  rw [node1, hx', Option.bind_some, he', Option.bind_some, e1]
  obtain ⟨e0, he0, k4, _⟩ := follow_is hx
  rw [he] at he0
  cases he0
  by_cases h1 : e.kind = 1
  ·rw [if_pos h1] at h ⊢
   rw [e5, if_pos (show e.kind = 1 ∨ e.kind = 4 from .inl h1), hr.vars x e he h1]
   cases hv : st.vars ⟨e.s.toArray⟩ with
   | some b => rw [hv] at h; cases h; exact ⟨st', rfl, hr⟩
   | none =>
    rw [hv] at h
    cases h
    refine ⟨⟨upd st'.vars ⟨(ν e.s).toArray⟩ st'.ns.length, st'.made, st'.ns ++ [varNode]⟩, by rw [hr.ns], ⟨by simp only [hr.ns], fun j f hf hk => ?_, hr.made⟩⟩
    by_cases q : f.s = e.s
    ·rw [q]; simp [upd, hr.ns]
    ·have q1 : (⟨(ν f.s).toArray⟩ : ByteArray) ≠ ⟨(ν e.s).toArray⟩ := fun h => q (S.names _ _ (arr_inj h))
     have q2 : (⟨f.s.toArray⟩ : ByteArray) ≠ ⟨e.s.toArray⟩ := fun h => q (arr_inj h)
     simp only
     rw [upd_ne _ _ q1, upd_ne _ _ q2]
     exact hr.vars j f hf hk
  ·rw [if_neg h1] at h ⊢
   rw [hr.made x]
   cases hm : st.made x with
   | some b => rw [hm] at h; cases h; exact ⟨st', rfl, hr⟩
   | none =>
    rw [hm] at h
    obtain ⟨⟨l, st2⟩, hk, h⟩ := Option.map_eq_some_iff.1 h
    cases h
    have hno : nodeOf e' = nodeOf e := by
     unfold nodeOf
     rw [e1, e3, e4, e5, if_neg (show ¬ (e.kind = 1 ∨ e.kind = 4) by omega)]
    have key : ∀ (L l0 l2 : List Nat) (s1 s2 s1' : LSt), kidsF (node1 T bd K) L l0 s1 = some (l2, s2) → SRel T φ ν s1 s1' → ∃ s2', kidsF (node1 T' bd' K) (L.map φ) l0 s1' = some (l2, s2') ∧ SRel T φ ν s2 s2' := by
     intro L
     induction L with
     | nil => intro l0 l2 s1 s2 s1' h hr; rw [kidsF] at h; cases h; exact ⟨s1', by rw [List.map_nil, kidsF], hr⟩
     | cons j L ihL =>
      intro l0 l2 s1 s2 s1' h hr
      rw [kidsF] at h
      obtain ⟨⟨b, s3⟩, h3, h⟩ := Option.bind_eq_some_iff.1 h
      obtain ⟨s3', k1, k2⟩ := ih j s1 s3 s1' b h3 hr
      obtain ⟨s2', m1, m2⟩ := ihL (l0 ++ [b]) l2 s3 s2 s3' h k2
      exact ⟨s2', by rw [List.map_cons, kidsF, k1, Option.bind_some]; exact m1, m2⟩
    have hr1 : SRel T φ ν ⟨st.vars, upd st.made x st.ns.length, st.ns ++ [nodeOf e]⟩ ⟨st'.vars, upd st'.made (φ x) st'.ns.length, st'.ns ++ [nodeOf e']⟩ := by
     refine ⟨by simp only [hr.ns, hno], hr.vars, fun y => ?_⟩
     by_cases q : y = x
     ·subst q; simp [upd, hr.ns]
     ·have : φ y ≠ φ x := fun h => q (S.inj _ _ h)
      simp [upd, q, this, hr.made y]
    obtain ⟨s2', k1, k2⟩ := key e.args [] l _ st2 _ hk hr1
    refine ⟨⟨s2'.vars, s2'.made, s2'.ns.set st'.ns.length { nodeOf e' with args := l.map fun a : Nat => (a : Int) }⟩, by show Option.map _ (kidsF _ e'.args _ _) = _; rw [e2, k1, zqd, hr.ns], ⟨by simp only [k2.ns, hr.ns, hno], k2.vars, k2.made⟩⟩
end
theorem node1_more {T : List Ent} {bd : Bd} : ∀ (K i : Nat) (st st1 : LSt) (a : Nat), node1 T bd K i st = some (a, st1) → node1 T bd (K + 1) i st = some (a, st1) := by
 intro K
 induction K with
 | zero => intro i st st1 a h; rw [node1] at h; cases h
 | succ K ih =>
  intro i st st1 a h
  rw [node1] at h
  obtain ⟨x, hx, h⟩ := Option.bind_eq_some_iff.1 h
  obtain ⟨e, he, h⟩ := Option.bind_eq_some_iff.1 h
  rw [node1, hx, Option.bind_some, he, Option.bind_some]
  by_cases h1 : e.kind = 1
  ·rw [if_pos h1] at h ⊢; exact h
  ·rw [if_neg h1] at h ⊢
   cases hm : st.made x with
   | some b => rw [hm] at h; exact h
   | none =>
    rw [hm] at h
    obtain ⟨⟨l, st2⟩, hk, h⟩ := Option.map_eq_some_iff.1 h
    have key : ∀ (L l0 l2 : List Nat) (s1 s2 : LSt), kidsF (node1 T bd K) L l0 s1 = some (l2, s2) → kidsF (node1 T bd (K + 1)) L l0 s1 = some (l2, s2) := by
     intro L
     induction L with
     | nil => intro l0 l2 s1 s2 h; rw [kidsF] at h ⊢; exact h
     | cons j L ihL =>
      intro l0 l2 s1 s2 h
      rw [kidsF] at h
      obtain ⟨⟨b, s3⟩, h3, h⟩ := Option.bind_eq_some_iff.1 h
      rw [kidsF, ih j s1 s3 b h3, Option.bind_some]
      exact ihL _ _ _ _ h
    simp only
    rw [key _ _ _ _ _ hk, zqd]
    exact congrArg some h
end Go.Tre
namespace Go.Tre
def varsN (l : List Tre.Node) : Nat := l.countP fun n => decide (n.kind = 1)
theorem entry_pre {t : Ty} {p : PE} (h : p ∈ pre t) : ∃ (i : Nat) (e : Ent), (flat t 0)[i]? = some e ∧ e.kind = p.1 ∧ e.s = p.2 := by
 rw [← pre_flat t 0] at h
 obtain ⟨e, he, rfl⟩ := List.mem_map.1 h
 obtain ⟨i, hi⟩ := List.getElem?_of_mem he
 exact ⟨i, e, hi, rfl, rfl⟩
theorem pre_entry {t : Ty} {i : Nat} {e : Ent} (h : (flat t 0)[i]? = some e) : (e.kind, e.s) ∈ pre t := by
 rw [← pre_flat t 0]
 exact List.mem_map.2 ⟨e, List.mem_of_getElem? h, rfl⟩
theorem bound_iff {t : Ty} {K : Nat} {bd : Bd} (h : bind1 (flat t 0) K 0 (fun _ => none, 0) = some bd) (s : ByteArray) : boundB (pre t) s = true ↔ ∃ x, bd.1 s = some x := by
 have k := bd_of h
 unfold boundB
 rw [List.any_eq_true]
 constructor
 ·rintro ⟨p, hp, hc⟩
  simp only [Bool.and_eq_true, decide_eq_true_eq] at hc
  obtain ⟨i, e, hi, e1, e2⟩ := entry_pre hp
  exact ⟨i, by rw [hc.2, ← e2]; exact k.2.2 i e hi (e1.trans hc.1)⟩
 ·rintro ⟨x, hx⟩
  obtain ⟨e, he, h4, hs⟩ := k.1 s x hx
  exact ⟨_, pre_entry he, by simp [h4, hs]⟩
end Go.Tre
