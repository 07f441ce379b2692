/- A type in the memory as a table: where each of its parts lies, no two at one place. typ: the parser's level: a row of arrows. -/
import Derived.Test.YtoieknnnadgfpaaGreatDoorB26
import Derived.Test.YtoieknnnadgfpaaGreatDoorB24
set_option linter.unusedVariables false
namespace Go.Tre
open Go.RowKit
def TabOf (w : World) (t : Ty) (L : List Addr) : Prop := ∀ (base : Nat) (ad : Nat → Addr), (∀ i a, L[i]? = some a → ad (base + i) = a) → ∀ i e, (flat t base)[i]? = some e → EntAt w ad (base + i) e
theorem table (N : Nat) : ∀ (t : Ty) (O : Nat → Prop) (V : Array Value) (b off : Nat) (w : World), t.weight ≤ N → TyIn w O t (.agg V) → (∀ j u, V[j]? = some u → w.cell? ⟨b, off + j, none⟩ = some u) → PlainAt w ⟨b, off, none⟩ → ¬ O b →
  ∃ L : List Addr, L.length = t.count ∧ L[0]? = some ⟨b, off, none⟩ ∧ (∀ a ∈ L.drop 1, O a.block) ∧ L.Nodup ∧ TabOf w t L := by
 induction N with
 | zero => intro t _ _ _ _ _ h; have := weight_pos t; omega
 | succ N ih =>
  intro t O V b off w hN hT hV hp hO
  cases hT with
  | @mk _ k s args labels o aa ca al cl W OO hc hl hlab hcell hsub hdis hargs =>
  rw [Ty.weight] at hN
  have kids : ∀ (rest : List Ty) (m : Nat), args.drop m = rest → ∃ L : List Addr, L.length = counts rest ∧ (∀ a ∈ L, O a.block ∧ ((∃ q b' off', m ≤ q ∧ q < args.length ∧ aa = some ⟨b', off', none⟩ ∧ a = ⟨b', off' + q * 5, none⟩) ∨ ∃ q, m ≤ q ∧ OO q a.block)) ∧ L.Nodup ∧
    ∀ (base : Nat) (ad : Nat → Addr), (∀ i a, L[i]? = some a → ad (base + i) = a) → (∀ i e, (flats rest base)[i]? = some e → EntAt w ad (base + i) e) ∧ ∀ j x, (idxs rest base)[j]? = some x → ∃ b' off', aa = some ⟨b', off', none⟩ ∧ ad x = ⟨b', off' + (m + j) * 5, none⟩ := by
   intro rest
   induction rest with
   | nil =>
    intro m _
    refine ⟨[], by simp [counts], by simp, List.nodup_nil, fun base ad _ => ⟨fun i e h => ?_, fun j x h => ?_⟩⟩
    ·rw [flats] at h; simp at h
    ·rw [idxs] at h; simp at h
   | cons c r ihr =>
    intro m hm
    have hml : m < args.length := by
     rcases Nat.lt_or_ge m args.length with h | h
     ·exact h
     ·rw [List.drop_eq_nil_of_le h] at hm; cases hm
    have hcm : args[m]? = some c := by
     have := congrArg (·[0]?) hm
     simpa [List.getElem?_drop] using this
    have hr : args.drop (m + 1) = r := by
     rw [List.drop_eq_getElem_cons hml] at hm
     exact (List.cons.inj hm).2
    obtain ⟨b', off', eaa, hob, ⟨cs, Tt, hpl⟩, hno, h5, hcc⟩ := hcell m hml
    have hwc := weights_at hcm
    obtain ⟨L1, l1, r1, o1, n1, t1⟩ := ih c (OO m) (W m) b' (off' + m * 5) w (by omega) (hargs m c hcm) (fun j u hu => hcc j u hu) ⟨cs, Tt, hpl⟩ (hno m)
    obtain ⟨L2, l2, o2, n2, t2⟩ := ihr (m + 1) hr
    have hL1 : L1 = ⟨b', off' + m * 5, none⟩ :: L1.drop 1 := by
     cases L1 with
     | nil => simp at r1
     | cons x y => simp at r1; subst r1; rfl
    refine ⟨L1 ++ L2, by rw [List.length_append, l1, l2, counts], fun a ha => ?_, ?_, fun base ad had => ?_⟩
    ·rcases List.mem_append.1 ha with ha | ha
     ·rw [hL1] at ha
      rcases List.mem_cons.1 ha with rfl | ha
      ·exact ⟨hob, .inl ⟨m, b', off', Nat.le_refl _, hml, eaa, rfl⟩⟩
      ·exact ⟨hsub m _ (o1 a ha), .inr ⟨m, Nat.le_refl _, o1 a ha⟩⟩
     ·obtain ⟨h1, h2⟩ := o2 a ha
      refine ⟨h1, ?_⟩
      rcases h2 with ⟨q, b2, off2, hq, hql, e, e2⟩ | ⟨q, hq, ho⟩
      ·exact .inl ⟨q, b2, off2, by omega, hql, e, e2⟩
      ·exact .inr ⟨q, by omega, ho⟩
    ·refine List.nodup_append.2 ⟨n1, n2, fun a ha c' hc' e => ?_⟩
     subst e
     obtain ⟨_, h2⟩ := o2 a hc'
     rw [hL1] at ha
     rcases List.mem_cons.1 ha with rfl | ha
     ·rcases h2 with ⟨q, b2, off2, hq, _, e, e2⟩ | ⟨q, hq, ho⟩
      ·rw [eaa] at e
       injection e with e
       injection e with e3 e4
       injection e2 with e5 e6
       omega
      ·exact hno q ho
     ·have hom := o1 a ha
      rcases h2 with ⟨q, b2, off2, hq, _, e, e2⟩ | ⟨q, hq, ho⟩
      ·rw [eaa] at e
       injection e with e
       injection e with e3 e4
       rw [e2] at hom
       rw [← e3] at hom
       exact hno m hom
      ·have := hdis m q _ hom ho
       omega
    ·have a1 : ∀ i a, L1[i]? = some a → ad (base + i) = a := fun i a h => had i a (by rw [List.getElem?_append_left (List.getElem?_eq_some_iff.1 h).1]; exact h)
     have a2 : ∀ i a, L2[i]? = some a → ad (base + c.count + i) = a := fun i a h => by
      have := had (L1.length + i) a (by rw [List.getElem?_append_right (by omega), Nat.add_sub_cancel_left]; exact h)
      rw [l1] at this
      rw [Nat.add_assoc]; exact this
     obtain ⟨k1, k2⟩ := t2 (base + c.count) ad a2
     refine ⟨fun i e h => ?_, fun j x h => ?_⟩
     ·rw [flats] at h
      rcases Nat.lt_or_ge i (flat c base).length with hi | hi
      ·rw [List.getElem?_append_left hi] at h
       exact t1 base ad a1 i e h
      ·rw [List.getElem?_append_right hi, flat_len] at h
       rw [flat_len] at hi
       have := k1 _ e h
       rwa [show base + c.count + (i - c.count) = base + i by omega] at this
     ·rw [idxs] at h
      cases j with
      | zero =>
       simp at h
       subst h
       refine ⟨b', off', eaa, ?_⟩
       have := a1 0 _ r1
       rw [Nat.add_zero] at this ⊢
       exact this
      | succ j =>
       rw [zqb] at h
       obtain ⟨b2, off2, e, e2⟩ := k2 j x h
       exact ⟨b2, off2, e, by rw [e2, show m + 1 + j = m + (j + 1) by omega]⟩
  obtain ⟨L, l1, o1, n1, t1⟩ := kids args 0 rfl
  refine ⟨⟨b, off, none⟩ :: L, by rw [List.length_cons, l1, Ty.count]; omega, rfl, fun a ha => (o1 a (by simpa using ha)).1, List.nodup_cons.2 ⟨fun h => hO (o1 _ h).1, n1⟩, fun base ad had i e h => ?_⟩
  have a1 : ∀ i a, L[i]? = some a → ad (base + 1 + i) = a := fun i a h => by
   have := had (i + 1) a (by rw [zqb]; exact h)
   rwa [show base + (i + 1) = base + 1 + i by omega] at this
  obtain ⟨k1, k2⟩ := t1 (base + 1) ad a1
  rw [flat] at h
  cases i with
  | zero =>
   simp at h
   subst h
   have hx : idxs args (base + 1) = idxs args (base + 1) := rfl
   refine ⟨b, off, aa, ca, al, cl, had 0 _ rfl, hV 0 _ rfl, hV 1 _ rfl, ?_, hV 3 _ rfl, hV 4 _ rfl, strs_of hlab, hp, fun j x hj => ?_⟩
   ·have := hV 2 _ rfl
    simp only [idxs_len]
    exact this
   ·obtain ⟨b', off', e1, e2⟩ := k2 j x hj
    rw [Nat.zero_add] at e2
    exact ⟨b', off', e1, e2⟩
  | succ i =>
   rw [zqb] at h
   have := k1 i e h
   rwa [show base + 1 + i = base + (i + 1) by omega] at this
theorem ents_of {w : World} {t : Ty} {O : Nat → Prop} {V : Array Value} {b off : Nat} (hT : TyIn w O t (.agg V)) (hV : ∀ j u, V[j]? = some u → w.cell? ⟨b, off + j, none⟩ = some u) (hp : PlainAt w ⟨b, off, none⟩) (hO : ¬ O b) :
  ∃ ad : Nat → Addr, EntsAt w (flat t 0) ad ∧ ad 0 = ⟨b, off, none⟩ := by
 obtain ⟨L, l1, r1, _, n1, t1⟩ := table t.weight t O V b off w (Nat.le_refl _) hT hV hp hO
 have had : ∀ i a, L[i]? = some a → (fun i => L.getD i ⟨0, 0, none⟩) (0 + i) = a := fun i a h => by
  show L.getD (0 + i) _ = a
  rw [Nat.zero_add, List.getD_eq_getElem?_getD, h]; rfl
 refine ⟨fun i => L.getD i ⟨0, 0, none⟩, ⟨fun i e he => ?_, fun i j hi hj e => ?_⟩, ?_⟩
 ·have := t1 0 (fun i => L.getD i ⟨0, 0, none⟩) had i e he
  rwa [Nat.zero_add] at this
 ·rw [flat_len, ← l1] at hi hj
  simp only [List.getD_eq_getElem?_getD, List.getElem?_eq_getElem hi, List.getElem?_eq_getElem hj, Option.getD_some] at e
  exact (List.getElem?_inj hi n1).1 (by rw [List.getElem?_eq_getElem hi, List.getElem?_eq_getElem hj, e])
 ·show L.getD 0 _ = _
  rw [List.getD_eq_getElem?_getD, r1]; rfl
end Go.Tre
namespace Go.Proofs.YtoieknnnadgfpaaGreatDoor.typ
open Go.RowKit Go.Tre
set_option maxRecDepth 100000 in
set_option maxHeartbeats 8000000 in
theorem level1 (w0 : World) (b : Nat) (ad : Option Addr) (c : Nat) (l : List Tok) (hl : ToksAt w0 ad l) (he : TokEnds l) (hll : l.length ≤ 4194304) (k : Nat) (ih : LevAt w0 b ad c l k) (rs : List Res) (i j : Nat) (t : Ty) (w : World) (hi : i < l.length) (hp : pLev l (k + 1) 1 i = some (t, j)) (hM : Mem w0 w (parR b ad l.length c i :: rs)) :
  Calls Tryz.prog 69 #[.pointer (some ⟨b, 0, none⟩), .int .i64 1] w (LevPost w0 b ad c l rs t j) := by
 have hp' := hp
 rw [pLevB _ _ _ _ (by omega)] at hp'
 obtain ⟨⟨t1, i1⟩, h1, h2⟩ := Option.bind_eq_some_iff.1 hp'
 have HP : Hid ((if tk l i1 6 [45, 62] = true then (pLev l k 1 (i1 + 1)).map fun q => (Ty.mk 2 [45, 62] [t1, q.1] [] false, q.2) else some (t1, i1)) = some (t, j)) := h2
 have HP1 := Tre.hid h1
 have HL := Tre.hid hl
 have HE := Tre.hid he
 have IH := Tre.hid ih
 have M0 := Tre.hid (hM.allocR #[.int .i64 0, .string ⟨#[]⟩, .slice none 0 0, .slice none 0 0, .bool false] 75)
 clear hl he ih hp hp' h1 h2 hM
 go_enter Tryz.func69, Tryz.ntmps69
 go_wp2_with fail
 refine (IH.out _ 2 i i1 t1 _ hi (by omega) HP1.out ((M0.out.alloc _).front 1 rfl)).mono ?_
 rintro e w1 ⟨O, aa, ca, al, cl, rfl, hj1, M1⟩
 generalize w.heap.size = tb at *
 have g0 : w1.cell? ⟨tb, 0, none⟩ = some (.int .i64 0) := M1.cell 2 rfl 0 rfl
 have g1 : w1.cell? ⟨tb, 1, none⟩ = some (.string ⟨#[]⟩) := M1.cell 2 rfl 1 rfl
 have g2 : w1.cell? ⟨tb, 2, none⟩ = some (.slice none 0 0) := M1.cell 2 rfl 2 rfl
 have g3 : w1.cell? ⟨tb, 3, none⟩ = some (.slice none 0 0) := M1.cell 2 rfl 3 rfl
 have g4 : w1.cell? ⟨tb, 4, none⟩ = some (.bool false) := M1.cell 2 rfl 4 rfl
 have f0 := M1.free 2 rfl 0
 have f1 := M1.free 2 rfl 1
 have f2 := M1.free 2 rfl 2
 have f3 := M1.free 2 rfl 3
 have f4 := M1.free 2 rfl 4
 have M2 := (((((M1.setCell 2 rfl 0 (.int .i64 (t1.kind : Int))).setCell 2 rfl 1 (.string ⟨t1.s.toArray⟩)).setCell 2 rfl 2 (.slice aa t1.args.length ca)).setCell 2 rfl 3 (.slice al t1.labels.length cl)).setCell 2 rfl 4 (.bool t1.opn))
 have M2b : Mem w0 _ (cellsR tb 75 #[.int .i64 (t1.kind : Int), .string ⟨t1.s.toArray⟩, .slice aa t1.args.length ca, .slice al t1.labels.length cl, .bool t1.opn] :: tyR O t1 (.agg #[.int .i64 (t1.kind : Int), .string ⟨t1.s.toArray⟩, .slice aa t1.args.length ca, .slice al t1.labels.length cl, .bool t1.opn]) :: parR b ad l.length c i1 :: rs) := M2.front 2 rfl
 have HM2 := Tre.hid M2b
 clear M2b
 have HJ1 := Tre.hid hj1
 clear M1 M2 hj1 M0 HP1
 go_wp2_with fail
 by_cases hk : tk l i1 6 [45, 62] = true
 ·have hpm := HP.out
  rw [if_pos hk] at hpm
  obtain ⟨⟨t2, j2⟩, hq, hq2⟩ := Option.map_eq_some_iff.1 hpm
  cases hq2
  have HK := Tre.hid hk
  have HP2 := Tre.hid hq
  have HI2 := Tre.hid (tk_lt HE.out (by omega) hk)
  clear hk hpm hq HP g0 g1 g2 g3 g4 f0 f1 f2 f3 f4
  refine (takes w0 _ b ad c l i1 6 ⟨#[45, 62]⟩ _ (HM2.out.front 2 rfl) HL.out HJ1.out hll true HK.out).mono ?_
  rintro e w2 ⟨rfl, M3⟩
  rw [if_pos rfl] at M3
  have HM3 := Tre.hid M3
  have p0 : w2.cell? ⟨tb, 0, none⟩ = some (.int .i64 (t1.kind : Int)) := M3.cell 1 rfl 0 rfl
  have p1 : w2.cell? ⟨tb, 1, none⟩ = some (.string ⟨t1.s.toArray⟩) := M3.cell 1 rfl 1 rfl
  have p2 : w2.cell? ⟨tb, 2, none⟩ = some (.slice aa t1.args.length ca) := M3.cell 1 rfl 2 rfl
  have p3 : w2.cell? ⟨tb, 3, none⟩ = some (.slice al t1.labels.length cl) := M3.cell 1 rfl 3 rfl
  have p4 : w2.cell? ⟨tb, 4, none⟩ = some (.bool t1.opn) := M3.cell 1 rfl 4 rfl
  clear M3 HM2 HK
  go_wp2_with fail
  have cS : Cond (fun w' => w'.cell? ⟨tb, 0, none⟩ = some (.int .i64 (t1.kind : Int)) ∧ w'.cell? ⟨tb, 1, none⟩ = some (.string ⟨t1.s.toArray⟩) ∧ w'.cell? ⟨tb, 2, none⟩ = some (.slice aa t1.args.length ca) ∧ w'.cell? ⟨tb, 3, none⟩ = some (.slice al t1.labels.length cl) ∧ w'.cell? ⟨tb, 4, none⟩ = some (.bool t1.opn)) := ⟨⟩
  refine cS.keep [5, 7] ?_ (fun hH0 => ?_)
  ·exact ⟨p0, p1, p2, p3, p4⟩
  have H0 := Tre.hid HM3.out.drew
  generalize hq : w2.drew = wq0 at H0 hH0 ⊢
  clear hq p0 p1 p2 p3 p4 HM3
  refine lPk 0 (some 33) (v := ?_) ?_ (keep_of hH0) ?_
  rotate_left
  ·intro w; simp only [zqa, zqc, zqd, zqe]; go_simp <;> with_reducible rfl
  try simp only [Act.put, zqf, zqg, zqh]
  refine lPk 2 (some 35) (v := ?_) ?_ (keep_of hH0) ?_
  rotate_left
  ·intro w; simp only [zqa, zqb, zqc, zqd, zqe]; go_simp <;> with_reducible rfl
  try simp only [Act.put, zqf, zqg, zqh]
  refine lPk 3 (some 36) (v := ?_) ?_ (keep_of hH0) ?_
  rotate_left
  ·intro w; simp only [zqa, zqb, zqc, zqd, zqe]; go_simp <;> with_reducible rfl
  try simp only [Act.put, zqf, zqg, zqh]
  refine lTk 1 (some 34) (v := ?_) ?_ hH0 ?_
  rotate_left
  ·intro w hSw; (try dsimp only at hSw); simp only [zqa, zqb, zqc, zqd, zqe]; go_simp <;> with_reducible rfl
  try simp only [Act.put, zqf, zqg, zqh]
  refine lOne 4 (by kernel_rfl) (LStep.op (fun K hK => ?_))
  go_simp
  refine (IH.out _ 1 (i1 + 1) j2 t2 _ HI2.out (by omega) HP2.out (H0.out.front 0 rfl)).mono ?_
  rintro e wq1 ⟨O2, aa2, ca2, al2, cl2, rfl, hj2, m⟩
  have H1 := Tre.hid m
  have HJ2 := Tre.hid hj2
  have k0 : wq1.cell? ⟨tb, 0, none⟩ = some (.int .i64 (t1.kind : Int)) := m.cell 2 rfl 0 rfl
  have k1 : wq1.cell? ⟨tb, 1, none⟩ = some (.string ⟨t1.s.toArray⟩) := m.cell 2 rfl 1 rfl
  have k2 : wq1.cell? ⟨tb, 2, none⟩ = some (.slice aa t1.args.length ca) := m.cell 2 rfl 2 rfl
  have k3 : wq1.cell? ⟨tb, 3, none⟩ = some (.slice al t1.labels.length cl) := m.cell 2 rfl 3 rfl
  have k4 : wq1.cell? ⟨tb, 4, none⟩ = some (.bool t1.opn) := m.cell 2 rfl 4 rfl
  have K0 := Tre.hid k0
  have K1 := Tre.hid k1
  have K2 := Tre.hid k2
  have K3 := Tre.hid k3
  have K4 := Tre.hid k4
  clear m hj2 k0 k1 k2 k3 k4
  refine hK.out _ _ ?_ (fun hH1 => ?_)
  ·exact ⟨K0.out, K1.out, K2.out, K3.out, K4.out⟩
  clear hK K hH0
  try simp only [Act.put, zqf, zqg, zqh]
  refine lOne 5 (by kernel_rfl) (LFall.op (by kernel_rfl) (fun K hK => ?_))
  have MA := H1.out.allocRow #[.int .i64 (t1.kind : Int), .string ⟨t1.s.toArray⟩, .slice aa t1.args.length ca, .slice al t1.labels.length cl, .bool t1.opn, .int .i64 (t2.kind : Int), .string ⟨t2.s.toArray⟩, .slice aa2 t2.args.length ca2, .slice al2 t2.labels.length cl2, .bool t2.opn] 75 5 2 (by unfold maxLen; omega) rfl
  go_simp
  generalize hnb : wq1.heap.size = nb at MA ⊢
  generalize hw : wq1.alloc (.cells #[.int .i64 (t1.kind : Int), .string ⟨t1.s.toArray⟩, .slice aa t1.args.length ca, .slice al t1.labels.length cl, .bool t1.opn, .int .i64 (t2.kind : Int), .string ⟨t2.s.toArray⟩, .slice aa2 t2.args.length ca2, .slice al2 t2.labels.length cl2, .bool t2.opn] 75) = wq2 at MA ⊢
  have H2 := Tre.hid MA
  clear MA hw hnb
  refine hK.out _ _ ?_
  clear hK K hH1
  try simp only [Act.put, zqf, zqg, zqh]
  refine lPk 6 (some 39) (v := ?_) ?_ (keep_fell (by kernel_rfl)) ?_
  rotate_left
  ·intro w; simp only [zqa, zqb, zqc, zqd, zqe]; go_simp <;> with_reducible rfl
  try simp only [Act.put, zqf, zqg, zqh]
  refine lOne 7 (by kernel_rfl) (LFall.op (by kernel_rfl) (fun K hK => ?_))
  have g0 : wq2.cell? ⟨tb, 0, none⟩ = some (.int .i64 (t1.kind : Int)) := H2.out.cell 3 rfl 0 rfl
  have g1 : wq2.cell? ⟨tb, 1, none⟩ = some (.string ⟨t1.s.toArray⟩) := H2.out.cell 3 rfl 1 rfl
  have g2 : wq2.cell? ⟨tb, 2, none⟩ = some (.slice aa t1.args.length ca) := H2.out.cell 3 rfl 2 rfl
  have g3 : wq2.cell? ⟨tb, 3, none⟩ = some (.slice al t1.labels.length cl) := H2.out.cell 3 rfl 3 rfl
  have g4 : wq2.cell? ⟨tb, 4, none⟩ = some (.bool t1.opn) := H2.out.cell 3 rfl 4 rfl
  have f0 := H2.out.free 3 rfl 0
  have f1 := H2.out.free 3 rfl 1
  have f2 := H2.out.free 3 rfl 2
  have f3 := H2.out.free 3 rfl 3
  have f4 := H2.out.free 3 rfl 4
  have H9 := (((((H2.out.setCell 3 rfl 0 (.int .i64 2)).setCell 3 rfl 1 (.string ⟨#[45, 62]⟩)).setCell 3 rfl 2 (.slice (some ⟨nb, 0, none⟩) 2 2)).setCell 3 rfl 3 (.slice none 0 0)).setCell 3 rfl 4 (.bool false))
  go_simp
  generalize hw : (((((wq2.setCell ⟨tb, 0, none⟩ (.int .i64 2)).setCell ⟨tb, 1, none⟩ (.string ⟨#[45, 62]⟩)).setCell ⟨tb, 2, none⟩ (.slice (some ⟨nb, 0, none⟩) 2 2)).setCell ⟨tb, 3, none⟩ (.slice none 0 0)).setCell ⟨tb, 4, none⟩ (.bool false)) = wq3 at H9 ⊢
  have H3 := Tre.hid H9
  clear H9 hw g0 g1 g2 g3 g4 f0 f1 f2 f3 f4
  refine hK.out _ _ ?_
  clear hK K
  try simp only [Act.put, zqf, zqg, zqh]
  refine lDone (by kernel_rfl) ?_
  have MB := (((((H3.out.front 2 rfl).front 3 rfl).front 3 rfl).front 4 rfl).front 4 rfl)
  have MC := ((MB.addNil 9 1).front 1 rfl)
  have MD := Mem.tyMake (kids := [⟨t1, #[.int .i64 (t1.kind : Int), .string ⟨t1.s.toArray⟩, .slice aa t1.args.length ca, .slice al t1.labels.length cl, .bool t1.opn], O⟩, ⟨t2, #[.int .i64 (t2.kind : Int), .string ⟨t2.s.toArray⟩, .slice aa2 t2.args.length ca2, .slice al2 t2.labels.length cl2, .bool t2.opn], O2⟩]) (labels := []) 2 [45, 62] false MC rfl rfl (by simp [kidCells])
  have MD2 : Mem w0 wq3 (cellsR tb 75 #[.int .i64 2, .string ⟨#[45, 62]⟩, .slice (some ⟨nb, 0, none⟩) 2 2, .slice none 0 0, .bool false] :: _) := MD.front 1 rfl
  have HM3 := Tre.hid MD2
  clear MB MC MD MD2
  have MT : Mem w0 wq3 (cellsR tb 75 #[.int .i64 2, .string ⟨#[45, 62]⟩, .slice (some ⟨nb, 0, none⟩) 2 2, .slice none 0 0, .bool false] :: _) := HM3.out.front 0 rfl
  have g0 : wq3.cell? ⟨tb, 0, none⟩ = some (.int .i64 2) := MT.cell 0 rfl 0 rfl
  have g1 : wq3.cell? ⟨tb, 1, none⟩ = some (.string ⟨#[45, 62]⟩) := MT.cell 0 rfl 1 rfl
  have g2 : wq3.cell? ⟨tb, 2, none⟩ = some (.slice (some ⟨nb, 0, none⟩) 2 2) := MT.cell 0 rfl 2 rfl
  have g3 : wq3.cell? ⟨tb, 3, none⟩ = some (.slice none 0 0) := MT.cell 0 rfl 3 rfl
  have g4 : wq3.cell? ⟨tb, 4, none⟩ = some (.bool false) := MT.cell 0 rfl 4 rfl
  have f0 := MT.free 0 rfl 0
  have f1 := MT.free 0 rfl 1
  have f2 := MT.free 0 rfl 2
  have f3 := MT.free 0 rfl 3
  have f4 := MT.free 0 rfl 4
  have M6 : Mem w0 (((((wq3.setCell ⟨tb, 0, none⟩ (.int .i64 2)).setCell ⟨tb, 1, none⟩ (.string ⟨#[45, 62]⟩)).setCell ⟨tb, 2, none⟩ (.slice (some ⟨nb, 0, none⟩) 2 2)).setCell ⟨tb, 3, none⟩ (.slice none 0 0)).setCell ⟨tb, 4, none⟩ (.bool false)) (cellsR tb 75 #[.int .i64 2, .string ⟨#[45, 62]⟩, .slice (some ⟨nb, 0, none⟩) 2 2, .slice none 0 0, .bool false] :: _) := (((((MT.setCell 0 rfl 0 (.int .i64 2)).setCell 0 rfl 1 (.string ⟨#[45, 62]⟩)).setCell 0 rfl 2 (.slice (some ⟨nb, 0, none⟩) 2 2)).setCell 0 rfl 3 (.slice none 0 0)).setCell 0 rfl 4 (.bool false))
  have HM6 := Tre.hid M6
  clear M6 MT
  go_wp2_with fail
  have z0 : (((((wq3.setCell ⟨tb, 0, none⟩ (.int .i64 2)).setCell ⟨tb, 1, none⟩ (.string ⟨#[45, 62]⟩)).setCell ⟨tb, 2, none⟩ (.slice (some ⟨nb, 0, none⟩) 2 2)).setCell ⟨tb, 3, none⟩ (.slice none 0 0)).setCell ⟨tb, 4, none⟩ (.bool false)).cell? ⟨tb, 0, none⟩ = some (.int .i64 2) := HM6.out.cell 0 rfl 0 rfl
  have z1 : (((((wq3.setCell ⟨tb, 0, none⟩ (.int .i64 2)).setCell ⟨tb, 1, none⟩ (.string ⟨#[45, 62]⟩)).setCell ⟨tb, 2, none⟩ (.slice (some ⟨nb, 0, none⟩) 2 2)).setCell ⟨tb, 3, none⟩ (.slice none 0 0)).setCell ⟨tb, 4, none⟩ (.bool false)).cell? ⟨tb, 1, none⟩ = some (.string ⟨#[45, 62]⟩) := HM6.out.cell 0 rfl 1 rfl
  have z2 : (((((wq3.setCell ⟨tb, 0, none⟩ (.int .i64 2)).setCell ⟨tb, 1, none⟩ (.string ⟨#[45, 62]⟩)).setCell ⟨tb, 2, none⟩ (.slice (some ⟨nb, 0, none⟩) 2 2)).setCell ⟨tb, 3, none⟩ (.slice none 0 0)).setCell ⟨tb, 4, none⟩ (.bool false)).cell? ⟨tb, 2, none⟩ = some (.slice (some ⟨nb, 0, none⟩) 2 2) := HM6.out.cell 0 rfl 2 rfl
  have z3 : (((((wq3.setCell ⟨tb, 0, none⟩ (.int .i64 2)).setCell ⟨tb, 1, none⟩ (.string ⟨#[45, 62]⟩)).setCell ⟨tb, 2, none⟩ (.slice (some ⟨nb, 0, none⟩) 2 2)).setCell ⟨tb, 3, none⟩ (.slice none 0 0)).setCell ⟨tb, 4, none⟩ (.bool false)).cell? ⟨tb, 3, none⟩ = some (.slice none 0 0) := HM6.out.cell 0 rfl 3 rfl
  have z4 : (((((wq3.setCell ⟨tb, 0, none⟩ (.int .i64 2)).setCell ⟨tb, 1, none⟩ (.string ⟨#[45, 62]⟩)).setCell ⟨tb, 2, none⟩ (.slice (some ⟨nb, 0, none⟩) 2 2)).setCell ⟨tb, 3, none⟩ (.slice none 0 0)).setCell ⟨tb, 4, none⟩ (.bool false)).cell? ⟨tb, 4, none⟩ = some (.bool false) := HM6.out.cell 0 rfl 4 rfl
  refine bodyPost_ret (v := .agg #[.int .i64 2, .string ⟨#[45, 62]⟩, .slice (some ⟨nb, 0, none⟩) 2 2, .slice none 0 0, .bool false]) (by simp [results, Tryz.results69, go_sem, z0, z1, z2, z3, z4]) rfl ?_
  have HR := HM6.out.drop1
  exact ⟨_, _, _, _, _, rfl, HJ2.out, HR⟩
 ·have hpm := HP.out
  rw [if_neg hk] at hpm
  injection hpm with hpm
  injection hpm with e1 e2
  subst e1 e2
  have HK : Hid (tk l i1 6 [45, 62] = false) := by show _ = _; simpa using hk
  clear hk HP g0 g1 g2 g3 g4 f0 f1 f2 f3 f4
  refine (takes w0 _ b ad c l i1 6 ⟨#[45, 62]⟩ _ (HM2.out.front 2 rfl) HL.out HJ1.out hll false HK.out).mono ?_
  rintro e w2 ⟨rfl, M3⟩
  rw [if_neg (by simp)] at M3
  have HM3 := Tre.hid M3
  clear M3 HM2 HK
  have MT : Mem w0 w2 (cellsR tb 75 #[.int .i64 (t1.kind : Int), .string ⟨t1.s.toArray⟩, .slice aa t1.args.length ca, .slice al t1.labels.length cl, .bool t1.opn] :: _) := HM3.out.front 1 rfl
  have g0 : w2.cell? ⟨tb, 0, none⟩ = some (.int .i64 (t1.kind : Int)) := MT.cell 0 rfl 0 rfl
  have g1 : w2.cell? ⟨tb, 1, none⟩ = some (.string ⟨t1.s.toArray⟩) := MT.cell 0 rfl 1 rfl
  have g2 : w2.cell? ⟨tb, 2, none⟩ = some (.slice aa t1.args.length ca) := MT.cell 0 rfl 2 rfl
  have g3 : w2.cell? ⟨tb, 3, none⟩ = some (.slice al t1.labels.length cl) := MT.cell 0 rfl 3 rfl
  have g4 : w2.cell? ⟨tb, 4, none⟩ = some (.bool t1.opn) := MT.cell 0 rfl 4 rfl
  have f0 := MT.free 0 rfl 0
  have f1 := MT.free 0 rfl 1
  have f2 := MT.free 0 rfl 2
  have f3 := MT.free 0 rfl 3
  have f4 := MT.free 0 rfl 4
  have M6 : Mem w0 (((((w2.setCell ⟨tb, 0, none⟩ (.int .i64 (t1.kind : Int))).setCell ⟨tb, 1, none⟩ (.string ⟨t1.s.toArray⟩)).setCell ⟨tb, 2, none⟩ (.slice aa t1.args.length ca)).setCell ⟨tb, 3, none⟩ (.slice al t1.labels.length cl)).setCell ⟨tb, 4, none⟩ (.bool t1.opn)) (cellsR tb 75 #[.int .i64 (t1.kind : Int), .string ⟨t1.s.toArray⟩, .slice aa t1.args.length ca, .slice al t1.labels.length cl, .bool t1.opn] :: _) := (((((MT.setCell 0 rfl 0 (.int .i64 (t1.kind : Int))).setCell 0 rfl 1 (.string ⟨t1.s.toArray⟩)).setCell 0 rfl 2 (.slice aa t1.args.length ca)).setCell 0 rfl 3 (.slice al t1.labels.length cl)).setCell 0 rfl 4 (.bool t1.opn))
  have HM6 := Tre.hid M6
  clear M6 MT
  go_wp2_with fail
  have z0 : (((((w2.setCell ⟨tb, 0, none⟩ (.int .i64 (t1.kind : Int))).setCell ⟨tb, 1, none⟩ (.string ⟨t1.s.toArray⟩)).setCell ⟨tb, 2, none⟩ (.slice aa t1.args.length ca)).setCell ⟨tb, 3, none⟩ (.slice al t1.labels.length cl)).setCell ⟨tb, 4, none⟩ (.bool t1.opn)).cell? ⟨tb, 0, none⟩ = some (.int .i64 (t1.kind : Int)) := HM6.out.cell 0 rfl 0 rfl
  have z1 : (((((w2.setCell ⟨tb, 0, none⟩ (.int .i64 (t1.kind : Int))).setCell ⟨tb, 1, none⟩ (.string ⟨t1.s.toArray⟩)).setCell ⟨tb, 2, none⟩ (.slice aa t1.args.length ca)).setCell ⟨tb, 3, none⟩ (.slice al t1.labels.length cl)).setCell ⟨tb, 4, none⟩ (.bool t1.opn)).cell? ⟨tb, 1, none⟩ = some (.string ⟨t1.s.toArray⟩) := HM6.out.cell 0 rfl 1 rfl
  have z2 : (((((w2.setCell ⟨tb, 0, none⟩ (.int .i64 (t1.kind : Int))).setCell ⟨tb, 1, none⟩ (.string ⟨t1.s.toArray⟩)).setCell ⟨tb, 2, none⟩ (.slice aa t1.args.length ca)).setCell ⟨tb, 3, none⟩ (.slice al t1.labels.length cl)).setCell ⟨tb, 4, none⟩ (.bool t1.opn)).cell? ⟨tb, 2, none⟩ = some (.slice aa t1.args.length ca) := HM6.out.cell 0 rfl 2 rfl
  have z3 : (((((w2.setCell ⟨tb, 0, none⟩ (.int .i64 (t1.kind : Int))).setCell ⟨tb, 1, none⟩ (.string ⟨t1.s.toArray⟩)).setCell ⟨tb, 2, none⟩ (.slice aa t1.args.length ca)).setCell ⟨tb, 3, none⟩ (.slice al t1.labels.length cl)).setCell ⟨tb, 4, none⟩ (.bool t1.opn)).cell? ⟨tb, 3, none⟩ = some (.slice al t1.labels.length cl) := HM6.out.cell 0 rfl 3 rfl
  have z4 : (((((w2.setCell ⟨tb, 0, none⟩ (.int .i64 (t1.kind : Int))).setCell ⟨tb, 1, none⟩ (.string ⟨t1.s.toArray⟩)).setCell ⟨tb, 2, none⟩ (.slice aa t1.args.length ca)).setCell ⟨tb, 3, none⟩ (.slice al t1.labels.length cl)).setCell ⟨tb, 4, none⟩ (.bool t1.opn)).cell? ⟨tb, 4, none⟩ = some (.bool t1.opn) := HM6.out.cell 0 rfl 4 rfl
  refine bodyPost_ret (v := .agg #[.int .i64 (t1.kind : Int), .string ⟨t1.s.toArray⟩, .slice aa t1.args.length ca, .slice al t1.labels.length cl, .bool t1.opn]) (by simp [results, Tryz.results69, go_sem, z0, z1, z2, z3, z4]) rfl ?_
  have HR := HM6.out.drop1
  exact ⟨O, aa, ca, al, cl, rfl, HJ1.out, HR.front 1 rfl⟩
end Go.Proofs.YtoieknnnadgfpaaGreatDoor.typ
