/- typ: the parser's level, where it comes to a type, out of what it says of less. typ: the parser's level: a row of arrows. -/
import Derived.Test.YtbafalfmgibnfaaGreatDoorB11
import Derived.Deep.LoopGhost
set_option linter.unusedVariables false
namespace Go.Tre
open Go.RowKit
def TokEnds (l : List Tok) : Prop := ∀ x, l[l.length - 1]? = some x → x.kind = 0
theorem tk_lt {l : List Tok} {i k : Nat} {s : List UInt8} (he : TokEnds l) (hk : k ≠ 0) (h : tk l i k s = true) : i + 1 < l.length := by
 unfold tk at h
 cases hx : l[i]? with
 | none => rw [hx] at h; cases h
 | some t =>
  rw [hx] at h
  simp only [Bool.and_eq_true, decide_eq_true_eq] at h
  have hi := (List.getElem?_eq_some_iff.1 hx).1
  refine Nat.lt_of_le_of_ne hi (fun e => ?_)
  have := he t (by rw [show l.length - 1 = i by omega]; exact hx)
  omega
theorem wd_lt {l : List Tok} {i k : Nat} {s : List UInt8} (he : TokEnds l) (hk : k ≠ 0) (h : wd l i k = some s) : i + 1 < l.length := by
 unfold wd at h
 cases hx : l[i]? with
 | none => rw [hx] at h; cases h
 | some t =>
  rw [hx] at h
  simp only at h
  have hi := (List.getElem?_eq_some_iff.1 hx).1
  have hk' : t.kind = k := by
   by_cases e : t.kind = k
   ·exact e
   ·rw [if_neg e] at h; cases h
  refine Nat.lt_of_le_of_ne hi (fun e => ?_)
  have := he t (by rw [show l.length - 1 = i by omega]; exact hx)
  omega
theorem pLev0 (l : List Tok) (k i : Nat) : pLev l (k + 1) 0 i = (pLev l k 1 i).bind fun r => pAs l k r.1 r.2 := by rw [pLev, if_pos rfl]
theorem pLevB (l : List Tok) (k n i : Nat) (h : n = 1 ∨ n = 2) : pLev l (k + 1) n i = (pLev l k (n + 1) i).bind fun r => if tk l r.2 6 (opS n) then (pLev l k n (r.2 + 1)).map fun q => (.mk 2 (opS n) [r.1, q.1] [] false, q.2) else some r := by
 rw [pLev, if_neg (by omega), if_pos h]
def LevPost (w0 : World) (b : Nat) (ad : Option Addr) (c : Nat) (l : List Tok) (rs : List Res) (t : Ty) (j : Nat) (e : Ending) (w' : World) : Prop :=
 ∃ (O : Nat → Prop) (aa : Option Addr) (ca : Nat) (al : Option Addr) (cl : Nat), e = .returned (.agg #[.int .i64 (t.kind : Int), .string ⟨t.s.toArray⟩, .slice aa t.args.length ca, .slice al t.labels.length cl, .bool t.opn]) ∧ j < l.length ∧ Mem w0 w' (tyR O t (.agg #[.int .i64 (t.kind : Int), .string ⟨t.s.toArray⟩, .slice aa t.args.length ca, .slice al t.labels.length cl, .bool t.opn]) :: parR b ad l.length c j :: rs)
end Go.Tre
namespace Go.Proofs.YtbafalfmgibnfaaGreatDoor.typ
open Go.RowKit Go.Tre
def LevAt (w0 : World) (b : Nat) (ad : Option Addr) (c : Nat) (l : List Tok) (k : Nat) : Prop :=
 ∀ (rs : List Res) (n i j : Nat) (t : Ty) (w : World), i < l.length → n ≤ 3 → pLev l k n i = some (t, j) → Mem w0 w (parR b ad l.length c i :: rs) →
  Calls Tryz.prog 42 #[.pointer (some ⟨b, 0, none⟩), .int .i64 n] w (LevPost w0 b ad c l rs t j)
set_option maxRecDepth 100000 in
set_option maxHeartbeats 8000000 in
theorem level0 (w0 : World) (b : Nat) (ad : Option Addr) (c : Nat) (l : List Tok) (hl : ToksAt w0 ad l) (he : TokEnds l) (hll : l.length ≤ 4194304) (k : Nat) (ih : LevAt w0 b ad c l k) (rs : List Res) (i j : Nat) (t : Ty) (w : World) (hi : i < l.length) (hp : pLev l (k + 1) 0 i = some (t, j)) (hM : Mem w0 w (parR b ad l.length c i :: rs)) :
  Calls Tryz.prog 42 #[.pointer (some ⟨b, 0, none⟩), .int .i64 0] w (LevPost w0 b ad c l rs t j) := by
 have hp' : ((pLev l k 1 i).bind fun r => pAs l k r.1 r.2) = some (t, j) := by rw [← hp, pLev0]
 obtain ⟨⟨t1, i1⟩, h1, h2⟩ := Option.bind_eq_some_iff.1 hp'
 have HP := Tre.hid h2
 have HP1 := Tre.hid h1
 have HL := Tre.hid hl
 have HE := Tre.hid he
 have IH := Tre.hid ih
 have M0 := Tre.hid (hM.allocR #[.int .i64 0, .string ⟨#[]⟩, .slice none 0 0, .slice none 0 0, .bool false] 28)
 clear hl he ih hp hp' h1 h2 hM
 go_enter Tryz.func42, Tryz.ntmps42
 go_wp2_with fail
 refine (IH.out _ 1 i i1 t1 _ hi (by omega) HP1.out (M0.out.front 1 rfl)).mono ?_
 rintro e w1 ⟨O, aa, ca, al, cl, rfl, hj1, M1⟩
 generalize w.heap.size = tb at *
 have g0 : w1.cell? ⟨tb, 0, none⟩ = some (.int .i64 0) := M1.cell 2 rfl 0 rfl
 have g1 : w1.cell? ⟨tb, 1, none⟩ = some (.string ⟨#[]⟩) := M1.cell 2 rfl 1 rfl
 have g2 : w1.cell? ⟨tb, 2, none⟩ = some (.slice none 0 0) := M1.cell 2 rfl 2 rfl
 have g3 : w1.cell? ⟨tb, 3, none⟩ = some (.slice none 0 0) := M1.cell 2 rfl 3 rfl
 have g4 : w1.cell? ⟨tb, 4, none⟩ = some (.bool false) := M1.cell 2 rfl 4 rfl
 have f0 := M1.free 2 rfl 0
 have f1 := M1.free 2 rfl 1
 have f2 := M1.free 2 rfl 2
 have f3 := M1.free 2 rfl 3
 have f4 := M1.free 2 rfl 4
 have M2 := (((((M1.setCell 2 rfl 0 (.int .i64 (t1.kind : Int))).setCell 2 rfl 1 (.string ⟨t1.s.toArray⟩)).setCell 2 rfl 2 (.slice aa t1.args.length ca)).setCell 2 rfl 3 (.slice al t1.labels.length cl)).setCell 2 rfl 4 (.bool t1.opn))
 have HM2 := Tre.hid (M2.front 2 rfl)
 have HJ1 := Tre.hid hj1
 clear M1 M2 hj1 M0 HP1
 go_wp2_with fail
 go_loopg [12] k (fun gk v12 wr => ∃ (u12 : Value) (i1 : Nat) (t1 : Ty) (O : Nat → Prop) (aa : Option Addr) (ca : Nat) (al : Option Addr) (cl : Nat), v12 = u12 ∧ Hid (pAs l gk t1 i1 = some (t, j)) ∧ Hid (i1 < l.length) ∧ Hid (Mem w0 wr (cellsR tb 28 #[.int .i64 (t1.kind : Int), .string ⟨t1.s.toArray⟩, .slice aa t1.args.length ca, .slice al t1.labels.length cl, .bool t1.opn] :: tyR O t1 (.agg #[.int .i64 (t1.kind : Int), .string ⟨t1.s.toArray⟩, .slice aa t1.args.length ca, .slice al t1.labels.length cl, .bool t1.opn]) :: parR b ad l.length c i1 :: rs)))
 case atStart => exact ⟨_, i1, t1, O, aa, ca, al, cl, rfl, HP.out, HJ1.out, HM2.out⟩
 case round =>
  clear HM2 HP HJ1 g0 g1 g2 g3 g4 f0 f1 f2 f3 f4
  obtain ⟨u12, i1, t1, O, aa, ca, al, cl, rfl, HP, HI1, HM⟩ := hrel
  obtain ⟨m, rfl⟩ : ∃ m, gk = m + 1 := by
   cases gk with
   | zero => have h := HP.out; unfold pAs at h; cases h
   | succ m => exact ⟨m, rfl⟩
  have hpm : (if tk l i1 2 [97, 115] then (wd l (i1 + 1) 5).bind fun s => pAs l m (.mk 4 s [t1] [] false) (i1 + 2) else some (t1, i1)) = some (t, j) := by rw [← HP.out]; conv => rhs; unfold pAs
  by_cases hk : tk l i1 2 [97, 115] = true
  ·rw [if_pos hk] at hpm
   obtain ⟨s, hs, hq⟩ := Option.bind_eq_some_iff.1 hpm
   have HK := Tre.hid hk
   have HW := Tre.hid hs
   have HP2 := Tre.hid hq
   have HI2 := Tre.hid (wd_lt HE.out (by omega) hs)
   clear hpm hk hs hq HP
   go_wp2_with fail
   refine (takes w0 _ b ad c l i1 2 ⟨#[97, 115]⟩ _ (HM.out.front 2 rfl) HL.out HI1.out hll true HK.out).mono ?_
   rintro e w2 ⟨rfl, M3⟩
   rw [if_pos rfl] at M3
   have HI1 := Tre.hid (tk_lt HE.out (by omega) HK.out)
   have HM3 := Tre.hid M3
   have p0 : w2.cell? ⟨tb, 0, none⟩ = some (.int .i64 (t1.kind : Int)) := M3.cell 1 rfl 0 rfl
   have p1 : w2.cell? ⟨tb, 1, none⟩ = some (.string ⟨t1.s.toArray⟩) := M3.cell 1 rfl 1 rfl
   have p2 : w2.cell? ⟨tb, 2, none⟩ = some (.slice aa t1.args.length ca) := M3.cell 1 rfl 2 rfl
   have p3 : w2.cell? ⟨tb, 3, none⟩ = some (.slice al t1.labels.length cl) := M3.cell 1 rfl 3 rfl
   have p4 : w2.cell? ⟨tb, 4, none⟩ = some (.bool t1.opn) := M3.cell 1 rfl 4 rfl
   clear M3 HM HK
   go_wp2_with fail
   have cS : Cond (fun w' => w'.cell? ⟨tb, 0, none⟩ = some (.int .i64 (t1.kind : Int)) ∧ w'.cell? ⟨tb, 1, none⟩ = some (.string ⟨t1.s.toArray⟩) ∧ w'.cell? ⟨tb, 2, none⟩ = some (.slice aa t1.args.length ca) ∧ w'.cell? ⟨tb, 3, none⟩ = some (.slice al t1.labels.length cl) ∧ w'.cell? ⟨tb, 4, none⟩ = some (.bool t1.opn)) := ⟨⟩
   refine cS.keep [3, 5] ?_ (fun hH0 => ?_)
   ·exact ⟨p0, p1, p2, p3, p4⟩
   have H0 := Tre.hid HM3.out.drew
   generalize hq : w2.drew = wq0 at H0 hH0 ⊢
   clear hq p0 p1 p2 p3 p4 HM3
   refine lPq 0 (some 13) (v := ?_) rfl ?_ (keep_of hH0) ?_
   rotate_left
   ·intro w; go_simp <;> with_reducible rfl
   try simp only [Act.put, zqf, zqg, zqh]
   refine lTq 2 (some 15) (v := ?_) rfl ?_ hH0 ?_
   rotate_left
   ·intro w hSw; (try dsimp only at hSw); go_simp <;> with_reducible rfl
   try simp only [Act.put, zqf, zqg, zqh]
   refine lTwo 1 3 (by kernel_rfl) (LStep.op (fun K hK => ?_)) (LFall.op (by kernel_rfl) (fun K hK => ?_))
   ·
    go_simp
    refine (word w0 _ b ad c l (i1 + 1) 5 _ (H0.out.front 0 rfl) HL.out HI1.out hll s HW.out).mono ?_
    rintro e wq1 ⟨rfl, m⟩
    have H1 := Tre.hid m
    have k0 : wq1.cell? ⟨tb, 0, none⟩ = some (.int .i64 (t1.kind : Int)) := m.cell 1 rfl 0 rfl
    have k1 : wq1.cell? ⟨tb, 1, none⟩ = some (.string ⟨t1.s.toArray⟩) := m.cell 1 rfl 1 rfl
    have k2 : wq1.cell? ⟨tb, 2, none⟩ = some (.slice aa t1.args.length ca) := m.cell 1 rfl 2 rfl
    have k3 : wq1.cell? ⟨tb, 3, none⟩ = some (.slice al t1.labels.length cl) := m.cell 1 rfl 3 rfl
    have k4 : wq1.cell? ⟨tb, 4, none⟩ = some (.bool t1.opn) := m.cell 1 rfl 4 rfl
    have K0 := Tre.hid k0
    have K1 := Tre.hid k1
    have K2 := Tre.hid k2
    have K3 := Tre.hid k3
    have K4 := Tre.hid k4
    clear m k0 k1 k2 k3 k4
    refine hK.out _ _ ?_ (fun hH1 => ?_)
    ·exact ⟨K0.out, K1.out, K2.out, K3.out, K4.out⟩
    clear hK K hH0
    try simp only [Act.put, zqf, zqg, zqh]
    refine lOne 3 (by kernel_rfl) (LFall.op (by kernel_rfl) (fun K hK => ?_))
    have MA := H1.out.allocRow #[.int .i64 (t1.kind : Int), .string ⟨t1.s.toArray⟩, .slice aa t1.args.length ca, .slice al t1.labels.length cl, .bool t1.opn] 28 5 1 (by unfold maxLen; omega) rfl
    go_simp
    generalize hnb : wq1.heap.size = nb at MA ⊢
    generalize hw : wq1.alloc (.cells #[.int .i64 (t1.kind : Int), .string ⟨t1.s.toArray⟩, .slice aa t1.args.length ca, .slice al t1.labels.length cl, .bool t1.opn] 28) = wq2 at MA ⊢
    have H2 := Tre.hid MA
    clear MA hw hnb
    refine hK.out _ _ ?_
    clear hK K hH1
    try simp only [Act.put, zqf, zqg, zqh]
    refine lPq 4 (some 17) (v := ?_) rfl ?_ (keep_fell (by kernel_rfl)) ?_
    rotate_left
    ·intro w; go_simp <;> with_reducible rfl
    try simp only [Act.put, zqf, zqg, zqh]
    refine lOne 5 (by kernel_rfl) (LFall.op (by kernel_rfl) (fun K hK => ?_))
    have g0 : wq2.cell? ⟨tb, 0, none⟩ = some (.int .i64 (t1.kind : Int)) := H2.out.cell 2 rfl 0 rfl
    have g1 : wq2.cell? ⟨tb, 1, none⟩ = some (.string ⟨t1.s.toArray⟩) := H2.out.cell 2 rfl 1 rfl
    have g2 : wq2.cell? ⟨tb, 2, none⟩ = some (.slice aa t1.args.length ca) := H2.out.cell 2 rfl 2 rfl
    have g3 : wq2.cell? ⟨tb, 3, none⟩ = some (.slice al t1.labels.length cl) := H2.out.cell 2 rfl 3 rfl
    have g4 : wq2.cell? ⟨tb, 4, none⟩ = some (.bool t1.opn) := H2.out.cell 2 rfl 4 rfl
    have f0 := H2.out.free 2 rfl 0
    have f1 := H2.out.free 2 rfl 1
    have f2 := H2.out.free 2 rfl 2
    have f3 := H2.out.free 2 rfl 3
    have f4 := H2.out.free 2 rfl 4
    have H9 := (((((H2.out.setCell 2 rfl 0 (.int .i64 4)).setCell 2 rfl 1 (.string ⟨s.toArray⟩)).setCell 2 rfl 2 (.slice (some ⟨nb, 0, none⟩) 1 1)).setCell 2 rfl 3 (.slice none 0 0)).setCell 2 rfl 4 (.bool false))
    go_simp
    generalize hw : (((((wq2.setCell ⟨tb, 0, none⟩ (.int .i64 4)).setCell ⟨tb, 1, none⟩ (.string ⟨s.toArray⟩)).setCell ⟨tb, 2, none⟩ (.slice (some ⟨nb, 0, none⟩) 1 1)).setCell ⟨tb, 3, none⟩ (.slice none 0 0)).setCell ⟨tb, 4, none⟩ (.bool false)) = wq3 at H9 ⊢
    have H3 := Tre.hid H9
    clear H9 hw g0 g1 g2 g3 g4 f0 f1 f2 f3 f4
    refine hK.out _ _ ?_
    clear hK K
    try simp only [Act.put, zqf, zqg, zqh]
    refine lDone (by kernel_rfl) ?_
    have MB := ((((H3.out.front 1 rfl).front 2 rfl).front 3 rfl).front 3 rfl)
    have MC := ((MB.addNil 9 1).front 1 rfl)
    have MD := Mem.tyMake (kids := [⟨t1, #[.int .i64 (t1.kind : Int), .string ⟨t1.s.toArray⟩, .slice aa t1.args.length ca, .slice al t1.labels.length cl, .bool t1.opn], O⟩]) (labels := []) 4 s false MC rfl rfl (by simp [kidCells])
    have HMD := Tre.hid (MD.front 1 rfl)
    clear MB MC MD
    go_wp2_with fail
    go_roundg m
    case measure => omega
    case rel => exact ⟨_, i1 + 2, .mk 4 s [t1] [] false, _, _, _, _, _, rfl, HP2.out, HI2.out, HMD.out⟩
   ·
    have MA := H0.out.allocRow #[.int .i64 (t1.kind : Int), .string ⟨t1.s.toArray⟩, .slice aa t1.args.length ca, .slice al t1.labels.length cl, .bool t1.opn] 28 5 1 (by unfold maxLen; omega) rfl
    go_simp
    generalize hnb : wq0.heap.size = nb at MA ⊢
    generalize hw : wq0.alloc (.cells #[.int .i64 (t1.kind : Int), .string ⟨t1.s.toArray⟩, .slice aa t1.args.length ca, .slice al t1.labels.length cl, .bool t1.opn] 28) = wq1 at MA ⊢
    have H1 := Tre.hid MA
    clear MA hw hnb
    refine hK.out _ _ ?_
    clear hK K hH0
    try simp only [Act.put, zqf, zqg, zqh]
    refine lOne 1 (by kernel_rfl) (LFall.op (by kernel_rfl) (fun K hK => ?_))
    go_simp
    refine (word w0 _ b ad c l (i1 + 1) 5 _ (H1.out.front 1 rfl) HL.out HI1.out hll s HW.out).mono ?_
    rintro e wq2 ⟨rfl, m⟩
    have H2 := Tre.hid m
    have k0 : wq2.cell? ⟨tb, 0, none⟩ = some (.int .i64 (t1.kind : Int)) := m.cell 2 rfl 0 rfl
    have k1 : wq2.cell? ⟨tb, 1, none⟩ = some (.string ⟨t1.s.toArray⟩) := m.cell 2 rfl 1 rfl
    have k2 : wq2.cell? ⟨tb, 2, none⟩ = some (.slice aa t1.args.length ca) := m.cell 2 rfl 2 rfl
    have k3 : wq2.cell? ⟨tb, 3, none⟩ = some (.slice al t1.labels.length cl) := m.cell 2 rfl 3 rfl
    have k4 : wq2.cell? ⟨tb, 4, none⟩ = some (.bool t1.opn) := m.cell 2 rfl 4 rfl
    have K0 := Tre.hid k0
    have K1 := Tre.hid k1
    have K2 := Tre.hid k2
    have K3 := Tre.hid k3
    have K4 := Tre.hid k4
    clear m k0 k1 k2 k3 k4
    refine hK.out _ _ ?_
    clear hK K
    try simp only [Act.put, zqf, zqg, zqh]
    refine lPq 4 (some 17) (v := ?_) rfl ?_ (keep_fell (by kernel_rfl)) ?_
    rotate_left
    ·intro w; go_simp <;> with_reducible rfl
    try simp only [Act.put, zqf, zqg, zqh]
    refine lOne 5 (by kernel_rfl) (LFall.op (by kernel_rfl) (fun K hK => ?_))
    have g0 : wq2.cell? ⟨tb, 0, none⟩ = some (.int .i64 (t1.kind : Int)) := H2.out.cell 2 rfl 0 rfl
    have g1 : wq2.cell? ⟨tb, 1, none⟩ = some (.string ⟨t1.s.toArray⟩) := H2.out.cell 2 rfl 1 rfl
    have g2 : wq2.cell? ⟨tb, 2, none⟩ = some (.slice aa t1.args.length ca) := H2.out.cell 2 rfl 2 rfl
    have g3 : wq2.cell? ⟨tb, 3, none⟩ = some (.slice al t1.labels.length cl) := H2.out.cell 2 rfl 3 rfl
    have g4 : wq2.cell? ⟨tb, 4, none⟩ = some (.bool t1.opn) := H2.out.cell 2 rfl 4 rfl
    have f0 := H2.out.free 2 rfl 0
    have f1 := H2.out.free 2 rfl 1
    have f2 := H2.out.free 2 rfl 2
    have f3 := H2.out.free 2 rfl 3
    have f4 := H2.out.free 2 rfl 4
    have H9 := (((((H2.out.setCell 2 rfl 0 (.int .i64 4)).setCell 2 rfl 1 (.string ⟨s.toArray⟩)).setCell 2 rfl 2 (.slice (some ⟨nb, 0, none⟩) 1 1)).setCell 2 rfl 3 (.slice none 0 0)).setCell 2 rfl 4 (.bool false))
    go_simp
    generalize hw : (((((wq2.setCell ⟨tb, 0, none⟩ (.int .i64 4)).setCell ⟨tb, 1, none⟩ (.string ⟨s.toArray⟩)).setCell ⟨tb, 2, none⟩ (.slice (some ⟨nb, 0, none⟩) 1 1)).setCell ⟨tb, 3, none⟩ (.slice none 0 0)).setCell ⟨tb, 4, none⟩ (.bool false)) = wq3 at H9 ⊢
    have H3 := Tre.hid H9
    clear H9 hw g0 g1 g2 g3 g4 f0 f1 f2 f3 f4
    refine hK.out _ _ ?_
    clear hK K
    try simp only [Act.put, zqf, zqg, zqh]
    refine lDone (by kernel_rfl) ?_
    have MB := ((((H3.out.front 0 rfl).front 2 rfl).front 3 rfl).front 3 rfl)
    have MC := ((MB.addNil 9 1).front 1 rfl)
    have MD := Mem.tyMake (kids := [⟨t1, #[.int .i64 (t1.kind : Int), .string ⟨t1.s.toArray⟩, .slice aa t1.args.length ca, .slice al t1.labels.length cl, .bool t1.opn], O⟩]) (labels := []) 4 s false MC rfl rfl (by simp [kidCells])
    have HMD := Tre.hid (MD.front 1 rfl)
    clear MB MC MD
    go_wp2_with fail
    go_roundg m
    case measure => omega
    case rel => exact ⟨_, i1 + 2, .mk 4 s [t1] [] false, _, _, _, _, _, rfl, HP2.out, HI2.out, HMD.out⟩
  ·rw [if_neg hk] at hpm
   injection hpm with hpm
   injection hpm with e1 e2
   subst e1 e2
   have HK : Hid (tk l i1 2 [97, 115] = false) := by show _ = _; simpa using hk
   clear hk HP
   go_wp2_with fail
   refine (takes w0 _ b ad c l i1 2 ⟨#[97, 115]⟩ _ (HM.out.front 2 rfl) HL.out HI1.out hll false HK.out).mono ?_
   rintro e w2 ⟨rfl, M3⟩
   rw [if_neg (by simp)] at M3
   have HM3 := Tre.hid M3
   clear M3 HM HK
   have MT : Mem w0 w2 (cellsR tb 28 #[.int .i64 (t1.kind : Int), .string ⟨t1.s.toArray⟩, .slice aa t1.args.length ca, .slice al t1.labels.length cl, .bool t1.opn] :: _) := HM3.out.front 1 rfl
   have g0 : w2.cell? ⟨tb, 0, none⟩ = some (.int .i64 (t1.kind : Int)) := MT.cell 0 rfl 0 rfl
   have g1 : w2.cell? ⟨tb, 1, none⟩ = some (.string ⟨t1.s.toArray⟩) := MT.cell 0 rfl 1 rfl
   have g2 : w2.cell? ⟨tb, 2, none⟩ = some (.slice aa t1.args.length ca) := MT.cell 0 rfl 2 rfl
   have g3 : w2.cell? ⟨tb, 3, none⟩ = some (.slice al t1.labels.length cl) := MT.cell 0 rfl 3 rfl
   have g4 : w2.cell? ⟨tb, 4, none⟩ = some (.bool t1.opn) := MT.cell 0 rfl 4 rfl
   have f0 := MT.free 0 rfl 0
   have f1 := MT.free 0 rfl 1
   have f2 := MT.free 0 rfl 2
   have f3 := MT.free 0 rfl 3
   have f4 := MT.free 0 rfl 4
   have M6 : Mem w0 (((((w2.setCell ⟨tb, 0, none⟩ (.int .i64 (t1.kind : Int))).setCell ⟨tb, 1, none⟩ (.string ⟨t1.s.toArray⟩)).setCell ⟨tb, 2, none⟩ (.slice aa t1.args.length ca)).setCell ⟨tb, 3, none⟩ (.slice al t1.labels.length cl)).setCell ⟨tb, 4, none⟩ (.bool t1.opn)) (cellsR tb 28 #[.int .i64 (t1.kind : Int), .string ⟨t1.s.toArray⟩, .slice aa t1.args.length ca, .slice al t1.labels.length cl, .bool t1.opn] :: _) := (((((MT.setCell 0 rfl 0 (.int .i64 (t1.kind : Int))).setCell 0 rfl 1 (.string ⟨t1.s.toArray⟩)).setCell 0 rfl 2 (.slice aa t1.args.length ca)).setCell 0 rfl 3 (.slice al t1.labels.length cl)).setCell 0 rfl 4 (.bool t1.opn))
   have HM6 := Tre.hid M6
   clear M6 MT
   go_wp2_with fail
   have z0 : (((((w2.setCell ⟨tb, 0, none⟩ (.int .i64 (t1.kind : Int))).setCell ⟨tb, 1, none⟩ (.string ⟨t1.s.toArray⟩)).setCell ⟨tb, 2, none⟩ (.slice aa t1.args.length ca)).setCell ⟨tb, 3, none⟩ (.slice al t1.labels.length cl)).setCell ⟨tb, 4, none⟩ (.bool t1.opn)).cell? ⟨tb, 0, none⟩ = some (.int .i64 (t1.kind : Int)) := HM6.out.cell 0 rfl 0 rfl
   have z1 : (((((w2.setCell ⟨tb, 0, none⟩ (.int .i64 (t1.kind : Int))).setCell ⟨tb, 1, none⟩ (.string ⟨t1.s.toArray⟩)).setCell ⟨tb, 2, none⟩ (.slice aa t1.args.length ca)).setCell ⟨tb, 3, none⟩ (.slice al t1.labels.length cl)).setCell ⟨tb, 4, none⟩ (.bool t1.opn)).cell? ⟨tb, 1, none⟩ = some (.string ⟨t1.s.toArray⟩) := HM6.out.cell 0 rfl 1 rfl
   have z2 : (((((w2.setCell ⟨tb, 0, none⟩ (.int .i64 (t1.kind : Int))).setCell ⟨tb, 1, none⟩ (.string ⟨t1.s.toArray⟩)).setCell ⟨tb, 2, none⟩ (.slice aa t1.args.length ca)).setCell ⟨tb, 3, none⟩ (.slice al t1.labels.length cl)).setCell ⟨tb, 4, none⟩ (.bool t1.opn)).cell? ⟨tb, 2, none⟩ = some (.slice aa t1.args.length ca) := HM6.out.cell 0 rfl 2 rfl
   have z3 : (((((w2.setCell ⟨tb, 0, none⟩ (.int .i64 (t1.kind : Int))).setCell ⟨tb, 1, none⟩ (.string ⟨t1.s.toArray⟩)).setCell ⟨tb, 2, none⟩ (.slice aa t1.args.length ca)).setCell ⟨tb, 3, none⟩ (.slice al t1.labels.length cl)).setCell ⟨tb, 4, none⟩ (.bool t1.opn)).cell? ⟨tb, 3, none⟩ = some (.slice al t1.labels.length cl) := HM6.out.cell 0 rfl 3 rfl
   have z4 : (((((w2.setCell ⟨tb, 0, none⟩ (.int .i64 (t1.kind : Int))).setCell ⟨tb, 1, none⟩ (.string ⟨t1.s.toArray⟩)).setCell ⟨tb, 2, none⟩ (.slice aa t1.args.length ca)).setCell ⟨tb, 3, none⟩ (.slice al t1.labels.length cl)).setCell ⟨tb, 4, none⟩ (.bool t1.opn)).cell? ⟨tb, 4, none⟩ = some (.bool t1.opn) := HM6.out.cell 0 rfl 4 rfl
   refine bodyPost_ret (v := .agg #[.int .i64 (t1.kind : Int), .string ⟨t1.s.toArray⟩, .slice aa t1.args.length ca, .slice al t1.labels.length cl, .bool t1.opn]) (by simp [results, Tryz.results42, go_sem, z0, z1, z2, z3, z4]) rfl ?_
   have HR := HM6.out.drop1
   exact ⟨O, aa, ca, al, cl, rfl, HI1.out, HR.front 1 rfl⟩
end Go.Proofs.YtbafalfmgibnfaaGreatDoor.typ
namespace Go.Proofs.YtbafalfmgibnfaaGreatDoor.typ
open Go.RowKit Go.Tre
set_option maxRecDepth 100000 in
set_option maxHeartbeats 8000000 in
theorem level1 (w0 : World) (b : Nat) (ad : Option Addr) (c : Nat) (l : List Tok) (hl : ToksAt w0 ad l) (he : TokEnds l) (hll : l.length ≤ 4194304) (k : Nat) (ih : LevAt w0 b ad c l k) (rs : List Res) (i j : Nat) (t : Ty) (w : World) (hi : i < l.length) (hp : pLev l (k + 1) 1 i = some (t, j)) (hM : Mem w0 w (parR b ad l.length c i :: rs)) :
  Calls Tryz.prog 42 #[.pointer (some ⟨b, 0, none⟩), .int .i64 1] w (LevPost w0 b ad c l rs t j) := by
 have hp' := hp
 rw [pLevB _ _ _ _ (by omega)] at hp'
 obtain ⟨⟨t1, i1⟩, h1, h2⟩ := Option.bind_eq_some_iff.1 hp'
 have HP : Hid ((if tk l i1 6 [45, 62] = true then (pLev l k 1 (i1 + 1)).map fun q => (Ty.mk 2 [45, 62] [t1, q.1] [] false, q.2) else some (t1, i1)) = some (t, j)) := h2
 have HP1 := Tre.hid h1
 have HL := Tre.hid hl
 have HE := Tre.hid he
 have IH := Tre.hid ih
 have M0 := Tre.hid (hM.allocR #[.int .i64 0, .string ⟨#[]⟩, .slice none 0 0, .slice none 0 0, .bool false] 28)
 clear hl he ih hp hp' h1 h2 hM
 go_enter Tryz.func42, Tryz.ntmps42
 go_wp2_with fail
 refine (IH.out _ 2 i i1 t1 _ hi (by omega) HP1.out ((M0.out.alloc _).front 1 rfl)).mono ?_
 rintro e w1 ⟨O, aa, ca, al, cl, rfl, hj1, M1⟩
 generalize w.heap.size = tb at *
 have g0 : w1.cell? ⟨tb, 0, none⟩ = some (.int .i64 0) := M1.cell 2 rfl 0 rfl
 have g1 : w1.cell? ⟨tb, 1, none⟩ = some (.string ⟨#[]⟩) := M1.cell 2 rfl 1 rfl
 have g2 : w1.cell? ⟨tb, 2, none⟩ = some (.slice none 0 0) := M1.cell 2 rfl 2 rfl
 have g3 : w1.cell? ⟨tb, 3, none⟩ = some (.slice none 0 0) := M1.cell 2 rfl 3 rfl
 have g4 : w1.cell? ⟨tb, 4, none⟩ = some (.bool false) := M1.cell 2 rfl 4 rfl
 have f0 := M1.free 2 rfl 0
 have f1 := M1.free 2 rfl 1
 have f2 := M1.free 2 rfl 2
 have f3 := M1.free 2 rfl 3
 have f4 := M1.free 2 rfl 4
 have M2 := (((((M1.setCell 2 rfl 0 (.int .i64 (t1.kind : Int))).setCell 2 rfl 1 (.string ⟨t1.s.toArray⟩)).setCell 2 rfl 2 (.slice aa t1.args.length ca)).setCell 2 rfl 3 (.slice al t1.labels.length cl)).setCell 2 rfl 4 (.bool t1.opn))
 have M2b : Mem w0 _ (cellsR tb 28 #[.int .i64 (t1.kind : Int), .string ⟨t1.s.toArray⟩, .slice aa t1.args.length ca, .slice al t1.labels.length cl, .bool t1.opn] :: tyR O t1 (.agg #[.int .i64 (t1.kind : Int), .string ⟨t1.s.toArray⟩, .slice aa t1.args.length ca, .slice al t1.labels.length cl, .bool t1.opn]) :: parR b ad l.length c i1 :: rs) := M2.front 2 rfl
 have HM2 := Tre.hid M2b
 clear M2b
 have HJ1 := Tre.hid hj1
 clear M1 M2 hj1 M0 HP1
 go_wp2_with fail
 by_cases hk : tk l i1 6 [45, 62] = true
 ·have hpm := HP.out
  rw [if_pos hk] at hpm
  obtain ⟨⟨t2, j2⟩, hq, hq2⟩ := Option.map_eq_some_iff.1 hpm
  cases hq2
  have HK := Tre.hid hk
  have HP2 := Tre.hid hq
  have HI2 := Tre.hid (tk_lt HE.out (by omega) hk)
  clear hk hpm hq HP g0 g1 g2 g3 g4 f0 f1 f2 f3 f4
  refine (takes w0 _ b ad c l i1 6 ⟨#[45, 62]⟩ _ (HM2.out.front 2 rfl) HL.out HJ1.out hll true HK.out).mono ?_
  rintro e w2 ⟨rfl, M3⟩
  rw [if_pos rfl] at M3
  have HM3 := Tre.hid M3
  have p0 : w2.cell? ⟨tb, 0, none⟩ = some (.int .i64 (t1.kind : Int)) := M3.cell 1 rfl 0 rfl
  have p1 : w2.cell? ⟨tb, 1, none⟩ = some (.string ⟨t1.s.toArray⟩) := M3.cell 1 rfl 1 rfl
  have p2 : w2.cell? ⟨tb, 2, none⟩ = some (.slice aa t1.args.length ca) := M3.cell 1 rfl 2 rfl
  have p3 : w2.cell? ⟨tb, 3, none⟩ = some (.slice al t1.labels.length cl) := M3.cell 1 rfl 3 rfl
  have p4 : w2.cell? ⟨tb, 4, none⟩ = some (.bool t1.opn) := M3.cell 1 rfl 4 rfl
  clear M3 HM2 HK
  go_wp2_with fail
  have cS : Cond (fun w' => w'.cell? ⟨tb, 0, none⟩ = some (.int .i64 (t1.kind : Int)) ∧ w'.cell? ⟨tb, 1, none⟩ = some (.string ⟨t1.s.toArray⟩) ∧ w'.cell? ⟨tb, 2, none⟩ = some (.slice aa t1.args.length ca) ∧ w'.cell? ⟨tb, 3, none⟩ = some (.slice al t1.labels.length cl) ∧ w'.cell? ⟨tb, 4, none⟩ = some (.bool t1.opn)) := ⟨⟩
  refine cS.keep [5, 7] ?_ (fun hH0 => ?_)
  ·exact ⟨p0, p1, p2, p3, p4⟩
  have H0 := Tre.hid HM3.out.drew
  generalize hq : w2.drew = wq0 at H0 hH0 ⊢
  clear hq p0 p1 p2 p3 p4 HM3
  refine lPq 0 (some 33) (v := ?_) rfl ?_ (keep_of hH0) ?_
  rotate_left
  ·intro w; go_simp <;> with_reducible rfl
  try simp only [Act.put, zqf, zqg, zqh]
  refine lPq 2 (some 35) (v := ?_) rfl ?_ (keep_of hH0) ?_
  rotate_left
  ·intro w; go_simp <;> with_reducible rfl
  try simp only [Act.put, zqf, zqg, zqh]
  refine lPq 3 (some 36) (v := ?_) rfl ?_ (keep_of hH0) ?_
  rotate_left
  ·intro w; go_simp <;> with_reducible rfl
  try simp only [Act.put, zqf, zqg, zqh]
  refine lTq 1 (some 34) (v := ?_) rfl ?_ hH0 ?_
  rotate_left
  ·intro w hSw; (try dsimp only at hSw); go_simp <;> with_reducible rfl
  try simp only [Act.put, zqf, zqg, zqh]
  refine lOne 4 (by kernel_rfl) (LStep.op (fun K hK => ?_))
  go_simp
  refine (IH.out _ 1 (i1 + 1) j2 t2 _ HI2.out (by omega) HP2.out (H0.out.front 0 rfl)).mono ?_
  rintro e wq1 ⟨O2, aa2, ca2, al2, cl2, rfl, hj2, m⟩
  have H1 := Tre.hid m
  have HJ2 := Tre.hid hj2
  have k0 : wq1.cell? ⟨tb, 0, none⟩ = some (.int .i64 (t1.kind : Int)) := m.cell 2 rfl 0 rfl
  have k1 : wq1.cell? ⟨tb, 1, none⟩ = some (.string ⟨t1.s.toArray⟩) := m.cell 2 rfl 1 rfl
  have k2 : wq1.cell? ⟨tb, 2, none⟩ = some (.slice aa t1.args.length ca) := m.cell 2 rfl 2 rfl
  have k3 : wq1.cell? ⟨tb, 3, none⟩ = some (.slice al t1.labels.length cl) := m.cell 2 rfl 3 rfl
  have k4 : wq1.cell? ⟨tb, 4, none⟩ = some (.bool t1.opn) := m.cell 2 rfl 4 rfl
  have K0 := Tre.hid k0
  have K1 := Tre.hid k1
  have K2 := Tre.hid k2
  have K3 := Tre.hid k3
  have K4 := Tre.hid k4
  clear m hj2 k0 k1 k2 k3 k4
  refine hK.out _ _ ?_ (fun hH1 => ?_)
  ·exact ⟨K0.out, K1.out, K2.out, K3.out, K4.out⟩
  clear hK K hH0
  try simp only [Act.put, zqf, zqg, zqh]
  refine lOne 5 (by kernel_rfl) (LFall.op (by kernel_rfl) (fun K hK => ?_))
  have MA := H1.out.allocRow #[.int .i64 (t1.kind : Int), .string ⟨t1.s.toArray⟩, .slice aa t1.args.length ca, .slice al t1.labels.length cl, .bool t1.opn, .int .i64 (t2.kind : Int), .string ⟨t2.s.toArray⟩, .slice aa2 t2.args.length ca2, .slice al2 t2.labels.length cl2, .bool t2.opn] 28 5 2 (by unfold maxLen; omega) rfl
  go_simp
  generalize hnb : wq1.heap.size = nb at MA ⊢
  generalize hw : wq1.alloc (.cells #[.int .i64 (t1.kind : Int), .string ⟨t1.s.toArray⟩, .slice aa t1.args.length ca, .slice al t1.labels.length cl, .bool t1.opn, .int .i64 (t2.kind : Int), .string ⟨t2.s.toArray⟩, .slice aa2 t2.args.length ca2, .slice al2 t2.labels.length cl2, .bool t2.opn] 28) = wq2 at MA ⊢
  have H2 := Tre.hid MA
  clear MA hw hnb
  refine hK.out _ _ ?_
  clear hK K hH1
  try simp only [Act.put, zqf, zqg, zqh]
  refine lPq 6 (some 39) (v := ?_) rfl ?_ (keep_fell (by kernel_rfl)) ?_
  rotate_left
  ·intro w; go_simp <;> with_reducible rfl
  try simp only [Act.put, zqf, zqg, zqh]
  refine lOne 7 (by kernel_rfl) (LFall.op (by kernel_rfl) (fun K hK => ?_))
  have g0 : wq2.cell? ⟨tb, 0, none⟩ = some (.int .i64 (t1.kind : Int)) := H2.out.cell 3 rfl 0 rfl
  have g1 : wq2.cell? ⟨tb, 1, none⟩ = some (.string ⟨t1.s.toArray⟩) := H2.out.cell 3 rfl 1 rfl
  have g2 : wq2.cell? ⟨tb, 2, none⟩ = some (.slice aa t1.args.length ca) := H2.out.cell 3 rfl 2 rfl
  have g3 : wq2.cell? ⟨tb, 3, none⟩ = some (.slice al t1.labels.length cl) := H2.out.cell 3 rfl 3 rfl
  have g4 : wq2.cell? ⟨tb, 4, none⟩ = some (.bool t1.opn) := H2.out.cell 3 rfl 4 rfl
  have f0 := H2.out.free 3 rfl 0
  have f1 := H2.out.free 3 rfl 1
  have f2 := H2.out.free 3 rfl 2
  have f3 := H2.out.free 3 rfl 3
  have f4 := H2.out.free 3 rfl 4
  have H9 := (((((H2.out.setCell 3 rfl 0 (.int .i64 2)).setCell 3 rfl 1 (.string ⟨#[45, 62]⟩)).setCell 3 rfl 2 (.slice (some ⟨nb, 0, none⟩) 2 2)).setCell 3 rfl 3 (.slice none 0 0)).setCell 3 rfl 4 (.bool false))
  go_simp
  generalize hw : (((((wq2.setCell ⟨tb, 0, none⟩ (.int .i64 2)).setCell ⟨tb, 1, none⟩ (.string ⟨#[45, 62]⟩)).setCell ⟨tb, 2, none⟩ (.slice (some ⟨nb, 0, none⟩) 2 2)).setCell ⟨tb, 3, none⟩ (.slice none 0 0)).setCell ⟨tb, 4, none⟩ (.bool false)) = wq3 at H9 ⊢
  have H3 := Tre.hid H9
  clear H9 hw g0 g1 g2 g3 g4 f0 f1 f2 f3 f4
  refine hK.out _ _ ?_
  clear hK K
  try simp only [Act.put, zqf, zqg, zqh]
  refine lDone (by kernel_rfl) ?_
  have MB := (((((H3.out.front 2 rfl).front 3 rfl).front 3 rfl).front 4 rfl).front 4 rfl)
  have MC := ((MB.addNil 9 1).front 1 rfl)
  have MD := Mem.tyMake (kids := [⟨t1, #[.int .i64 (t1.kind : Int), .string ⟨t1.s.toArray⟩, .slice aa t1.args.length ca, .slice al t1.labels.length cl, .bool t1.opn], O⟩, ⟨t2, #[.int .i64 (t2.kind : Int), .string ⟨t2.s.toArray⟩, .slice aa2 t2.args.length ca2, .slice al2 t2.labels.length cl2, .bool t2.opn], O2⟩]) (labels := []) 2 [45, 62] false MC rfl rfl (by simp [kidCells])
  have MD2 : Mem w0 wq3 (cellsR tb 28 #[.int .i64 2, .string ⟨#[45, 62]⟩, .slice (some ⟨nb, 0, none⟩) 2 2, .slice none 0 0, .bool false] :: _) := MD.front 1 rfl
  have HM3 := Tre.hid MD2
  clear MB MC MD MD2
  have MT : Mem w0 wq3 (cellsR tb 28 #[.int .i64 2, .string ⟨#[45, 62]⟩, .slice (some ⟨nb, 0, none⟩) 2 2, .slice none 0 0, .bool false] :: _) := HM3.out.front 0 rfl
  have g0 : wq3.cell? ⟨tb, 0, none⟩ = some (.int .i64 2) := MT.cell 0 rfl 0 rfl
  have g1 : wq3.cell? ⟨tb, 1, none⟩ = some (.string ⟨#[45, 62]⟩) := MT.cell 0 rfl 1 rfl
  have g2 : wq3.cell? ⟨tb, 2, none⟩ = some (.slice (some ⟨nb, 0, none⟩) 2 2) := MT.cell 0 rfl 2 rfl
  have g3 : wq3.cell? ⟨tb, 3, none⟩ = some (.slice none 0 0) := MT.cell 0 rfl 3 rfl
  have g4 : wq3.cell? ⟨tb, 4, none⟩ = some (.bool false) := MT.cell 0 rfl 4 rfl
  have f0 := MT.free 0 rfl 0
  have f1 := MT.free 0 rfl 1
  have f2 := MT.free 0 rfl 2
  have f3 := MT.free 0 rfl 3
  have f4 := MT.free 0 rfl 4
  have M6 : Mem w0 (((((wq3.setCell ⟨tb, 0, none⟩ (.int .i64 2)).setCell ⟨tb, 1, none⟩ (.string ⟨#[45, 62]⟩)).setCell ⟨tb, 2, none⟩ (.slice (some ⟨nb, 0, none⟩) 2 2)).setCell ⟨tb, 3, none⟩ (.slice none 0 0)).setCell ⟨tb, 4, none⟩ (.bool false)) (cellsR tb 28 #[.int .i64 2, .string ⟨#[45, 62]⟩, .slice (some ⟨nb, 0, none⟩) 2 2, .slice none 0 0, .bool false] :: _) := (((((MT.setCell 0 rfl 0 (.int .i64 2)).setCell 0 rfl 1 (.string ⟨#[45, 62]⟩)).setCell 0 rfl 2 (.slice (some ⟨nb, 0, none⟩) 2 2)).setCell 0 rfl 3 (.slice none 0 0)).setCell 0 rfl 4 (.bool false))
  have HM6 := Tre.hid M6
  clear M6 MT
  go_wp2_with fail
  have z0 : (((((wq3.setCell ⟨tb, 0, none⟩ (.int .i64 2)).setCell ⟨tb, 1, none⟩ (.string ⟨#[45, 62]⟩)).setCell ⟨tb, 2, none⟩ (.slice (some ⟨nb, 0, none⟩) 2 2)).setCell ⟨tb, 3, none⟩ (.slice none 0 0)).setCell ⟨tb, 4, none⟩ (.bool false)).cell? ⟨tb, 0, none⟩ = some (.int .i64 2) := HM6.out.cell 0 rfl 0 rfl
  have z1 : (((((wq3.setCell ⟨tb, 0, none⟩ (.int .i64 2)).setCell ⟨tb, 1, none⟩ (.string ⟨#[45, 62]⟩)).setCell ⟨tb, 2, none⟩ (.slice (some ⟨nb, 0, none⟩) 2 2)).setCell ⟨tb, 3, none⟩ (.slice none 0 0)).setCell ⟨tb, 4, none⟩ (.bool false)).cell? ⟨tb, 1, none⟩ = some (.string ⟨#[45, 62]⟩) := HM6.out.cell 0 rfl 1 rfl
  have z2 : (((((wq3.setCell ⟨tb, 0, none⟩ (.int .i64 2)).setCell ⟨tb, 1, none⟩ (.string ⟨#[45, 62]⟩)).setCell ⟨tb, 2, none⟩ (.slice (some ⟨nb, 0, none⟩) 2 2)).setCell ⟨tb, 3, none⟩ (.slice none 0 0)).setCell ⟨tb, 4, none⟩ (.bool false)).cell? ⟨tb, 2, none⟩ = some (.slice (some ⟨nb, 0, none⟩) 2 2) := HM6.out.cell 0 rfl 2 rfl
  have z3 : (((((wq3.setCell ⟨tb, 0, none⟩ (.int .i64 2)).setCell ⟨tb, 1, none⟩ (.string ⟨#[45, 62]⟩)).setCell ⟨tb, 2, none⟩ (.slice (some ⟨nb, 0, none⟩) 2 2)).setCell ⟨tb, 3, none⟩ (.slice none 0 0)).setCell ⟨tb, 4, none⟩ (.bool false)).cell? ⟨tb, 3, none⟩ = some (.slice none 0 0) := HM6.out.cell 0 rfl 3 rfl
  have z4 : (((((wq3.setCell ⟨tb, 0, none⟩ (.int .i64 2)).setCell ⟨tb, 1, none⟩ (.string ⟨#[45, 62]⟩)).setCell ⟨tb, 2, none⟩ (.slice (some ⟨nb, 0, none⟩) 2 2)).setCell ⟨tb, 3, none⟩ (.slice none 0 0)).setCell ⟨tb, 4, none⟩ (.bool false)).cell? ⟨tb, 4, none⟩ = some (.bool false) := HM6.out.cell 0 rfl 4 rfl
  refine bodyPost_ret (v := .agg #[.int .i64 2, .string ⟨#[45, 62]⟩, .slice (some ⟨nb, 0, none⟩) 2 2, .slice none 0 0, .bool false]) (by simp [results, Tryz.results42, go_sem, z0, z1, z2, z3, z4]) rfl ?_
  have HR := HM6.out.drop1
  exact ⟨_, _, _, _, _, rfl, HJ2.out, HR⟩
 ·have hpm := HP.out
  rw [if_neg hk] at hpm
  injection hpm with hpm
  injection hpm with e1 e2
  subst e1 e2
  have HK : Hid (tk l i1 6 [45, 62] = false) := by show _ = _; simpa using hk
  clear hk HP g0 g1 g2 g3 g4 f0 f1 f2 f3 f4
  refine (takes w0 _ b ad c l i1 6 ⟨#[45, 62]⟩ _ (HM2.out.front 2 rfl) HL.out HJ1.out hll false HK.out).mono ?_
  rintro e w2 ⟨rfl, M3⟩
  rw [if_neg (by simp)] at M3
  have HM3 := Tre.hid M3
  clear M3 HM2 HK
  have MT : Mem w0 w2 (cellsR tb 28 #[.int .i64 (t1.kind : Int), .string ⟨t1.s.toArray⟩, .slice aa t1.args.length ca, .slice al t1.labels.length cl, .bool t1.opn] :: _) := HM3.out.front 1 rfl
  have g0 : w2.cell? ⟨tb, 0, none⟩ = some (.int .i64 (t1.kind : Int)) := MT.cell 0 rfl 0 rfl
  have g1 : w2.cell? ⟨tb, 1, none⟩ = some (.string ⟨t1.s.toArray⟩) := MT.cell 0 rfl 1 rfl
  have g2 : w2.cell? ⟨tb, 2, none⟩ = some (.slice aa t1.args.length ca) := MT.cell 0 rfl 2 rfl
  have g3 : w2.cell? ⟨tb, 3, none⟩ = some (.slice al t1.labels.length cl) := MT.cell 0 rfl 3 rfl
  have g4 : w2.cell? ⟨tb, 4, none⟩ = some (.bool t1.opn) := MT.cell 0 rfl 4 rfl
  have f0 := MT.free 0 rfl 0
  have f1 := MT.free 0 rfl 1
  have f2 := MT.free 0 rfl 2
  have f3 := MT.free 0 rfl 3
  have f4 := MT.free 0 rfl 4
  have M6 : Mem w0 (((((w2.setCell ⟨tb, 0, none⟩ (.int .i64 (t1.kind : Int))).setCell ⟨tb, 1, none⟩ (.string ⟨t1.s.toArray⟩)).setCell ⟨tb, 2, none⟩ (.slice aa t1.args.length ca)).setCell ⟨tb, 3, none⟩ (.slice al t1.labels.length cl)).setCell ⟨tb, 4, none⟩ (.bool t1.opn)) (cellsR tb 28 #[.int .i64 (t1.kind : Int), .string ⟨t1.s.toArray⟩, .slice aa t1.args.length ca, .slice al t1.labels.length cl, .bool t1.opn] :: _) := (((((MT.setCell 0 rfl 0 (.int .i64 (t1.kind : Int))).setCell 0 rfl 1 (.string ⟨t1.s.toArray⟩)).setCell 0 rfl 2 (.slice aa t1.args.length ca)).setCell 0 rfl 3 (.slice al t1.labels.length cl)).setCell 0 rfl 4 (.bool t1.opn))
  have HM6 := Tre.hid M6
  clear M6 MT
  go_wp2_with fail
  have z0 : (((((w2.setCell ⟨tb, 0, none⟩ (.int .i64 (t1.kind : Int))).setCell ⟨tb, 1, none⟩ (.string ⟨t1.s.toArray⟩)).setCell ⟨tb, 2, none⟩ (.slice aa t1.args.length ca)).setCell ⟨tb, 3, none⟩ (.slice al t1.labels.length cl)).setCell ⟨tb, 4, none⟩ (.bool t1.opn)).cell? ⟨tb, 0, none⟩ = some (.int .i64 (t1.kind : Int)) := HM6.out.cell 0 rfl 0 rfl
  have z1 : (((((w2.setCell ⟨tb, 0, none⟩ (.int .i64 (t1.kind : Int))).setCell ⟨tb, 1, none⟩ (.string ⟨t1.s.toArray⟩)).setCell ⟨tb, 2, none⟩ (.slice aa t1.args.length ca)).setCell ⟨tb, 3, none⟩ (.slice al t1.labels.length cl)).setCell ⟨tb, 4, none⟩ (.bool t1.opn)).cell? ⟨tb, 1, none⟩ = some (.string ⟨t1.s.toArray⟩) := HM6.out.cell 0 rfl 1 rfl
  have z2 : (((((w2.setCell ⟨tb, 0, none⟩ (.int .i64 (t1.kind : Int))).setCell ⟨tb, 1, none⟩ (.string ⟨t1.s.toArray⟩)).setCell ⟨tb, 2, none⟩ (.slice aa t1.args.length ca)).setCell ⟨tb, 3, none⟩ (.slice al t1.labels.length cl)).setCell ⟨tb, 4, none⟩ (.bool t1.opn)).cell? ⟨tb, 2, none⟩ = some (.slice aa t1.args.length ca) := HM6.out.cell 0 rfl 2 rfl
  have z3 : (((((w2.setCell ⟨tb, 0, none⟩ (.int .i64 (t1.kind : Int))).setCell ⟨tb, 1, none⟩ (.string ⟨t1.s.toArray⟩)).setCell ⟨tb, 2, none⟩ (.slice aa t1.args.length ca)).setCell ⟨tb, 3, none⟩ (.slice al t1.labels.length cl)).setCell ⟨tb, 4, none⟩ (.bool t1.opn)).cell? ⟨tb, 3, none⟩ = some (.slice al t1.labels.length cl) := HM6.out.cell 0 rfl 3 rfl
  have z4 : (((((w2.setCell ⟨tb, 0, none⟩ (.int .i64 (t1.kind : Int))).setCell ⟨tb, 1, none⟩ (.string ⟨t1.s.toArray⟩)).setCell ⟨tb, 2, none⟩ (.slice aa t1.args.length ca)).setCell ⟨tb, 3, none⟩ (.slice al t1.labels.length cl)).setCell ⟨tb, 4, none⟩ (.bool t1.opn)).cell? ⟨tb, 4, none⟩ = some (.bool t1.opn) := HM6.out.cell 0 rfl 4 rfl
  refine bodyPost_ret (v := .agg #[.int .i64 (t1.kind : Int), .string ⟨t1.s.toArray⟩, .slice aa t1.args.length ca, .slice al t1.labels.length cl, .bool t1.opn]) (by simp [results, Tryz.results42, go_sem, z0, z1, z2, z3, z4]) rfl ?_
  have HR := HM6.out.drop1
  exact ⟨O, aa, ca, al, cl, rfl, HJ1.out, HR.front 1 rfl⟩
end Go.Proofs.YtbafalfmgibnfaaGreatDoor.typ
