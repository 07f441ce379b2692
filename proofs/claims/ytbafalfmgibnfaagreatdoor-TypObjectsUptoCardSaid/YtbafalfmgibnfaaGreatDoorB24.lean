/- trefoilref03.Of: a type out of its parts. trefoilref02.SameType at types that are the same (and some answer at others). trefoilref02.SameType: at types that are the same it is true. -/
import Derived.Test.YtbafalfmgibnfaaGreatDoorB23
import Derived.Deep.LoopGhost
import Derived.Test.YtbafalfmgibnfaaGreatDoorB20
set_option linter.unusedVariables false
namespace Go.Proofs.YtbafalfmgibnfaaGreatDoor.part
open Go.RowKit Go.Maps Go.Tre lex gr
theorem infoTy : (Tryz.prog.info? 28).map (fun i => (i.zero, i.size, i.bytes)) = some (some (.agg #[.int .i64 0, .string ⟨#[]⟩, .slice none 0 0, .slice none 0 0, .bool false]), 5, 80) := by kernel_rfl
theorem infoSt : (Tryz.prog.info? 9).map (fun i => (i.zero, i.size, i.bytes)) = some (some (.string ⟨#[]⟩), 1, 16) := by kernel_rfl
set_option maxRecDepth 100000 in
set_option maxHeartbeats 16000000 in
theorem of_any (wb : World) (K : Nat) : ∀ (l : List Prt) (a : Option Addr) (cap : Nat) (w : World), Below wb.heap.size wb w → l.length < K → l.length ≤ 1048576 → l.length ≤ cap → PrtsAt wb a l →
  Calls Tryz.prog 8 #[.slice a l.length cap] w fun e w' => ∃ (O : Nat → Prop) (aa al : Option Addr) (ca cl : Nat) (a' : Option Addr) (c' : Nat),
   e = .returned (.tuple #[.agg #[.int .i64 ((ofP K l).1.kind : Int), .string ⟨(ofP K l).1.s.toArray⟩, .slice aa (ofP K l).1.args.length ca, .slice al (ofP K l).1.labels.length cl, .bool (ofP K l).1.opn], .slice a' (ofP K l).2.length c']) ∧
   (ofP K l).2.length ≤ c' ∧ PrtsAt wb a' (ofP K l).2 ∧
   Mem w w' [tyR O (ofP K l).1 (.agg #[.int .i64 ((ofP K l).1.kind : Int), .string ⟨(ofP K l).1.s.toArray⟩, .slice aa (ofP K l).1.args.length ca, .slice al (ofP K l).1.labels.length cl, .bool (ofP K l).1.opn])] := by
 induction K with
 | zero => intro l a cap w _ h; omega
 | succ K ih =>
  intro l a cap w hB0 hlk hll hcap hl
  have HB0 := Tre.hid hB0
  have IH := Tre.hid ih
  have HL := Tre.hid hl
  have M0 := Tre.hid ((Mem.nil w).allocR #[.int .i64 0, .string ⟨#[]⟩, .slice none 0 0, .slice none 0 0, .bool false] 28)
  clear ih hl
  cases l with
  | nil =>
   clear M0
   have HM9 := Tre.hid ((Mem.nil w).allocR #[.int .i64 2, .string ⟨#[105, 110, 116]⟩, .slice none 0 0, .slice none 0 0, .bool false] 28)
   go_enter Tryz.func8, Tryz.ntmps8
   go_wp2_with fail
   generalize (w.alloc (.cells #[.int .i64 2, .string ⟨#[105, 110, 116]⟩, .slice none 0 0, .slice none 0 0, .bool false] 28)) = wz at HM9 ⊢
   have z0 : wz.cell? ⟨w.heap.size, 0, none⟩ = some (.int .i64 2) := HM9.out.cell 0 rfl 0 rfl
   have z1 : wz.cell? ⟨w.heap.size, 1, none⟩ = some (.string ⟨#[105, 110, 116]⟩) := HM9.out.cell 0 rfl 1 rfl
   have z2 : wz.cell? ⟨w.heap.size, 2, none⟩ = some (.slice none 0 0) := HM9.out.cell 0 rfl 2 rfl
   have z3 : wz.cell? ⟨w.heap.size, 3, none⟩ = some (.slice none 0 0) := HM9.out.cell 0 rfl 3 rfl
   have z4 : wz.cell? ⟨w.heap.size, 4, none⟩ = some (.bool false) := HM9.out.cell 0 rfl 4 rfl
   refine bodyPost_ret (v := .tuple #[.agg #[.int .i64 2, .string ⟨#[105, 110, 116]⟩, .slice none 0 0, .slice none 0 0, .bool false], .slice none 0 0]) (by simp [results, Tryz.results8, go_sem, z0, z1, z2, z3, z4]) rfl ?_
   exact ⟨_, none, none, 0, 0, none, 0, rfl, Nat.le_refl _, PrtsAt.nil _ _, Mem.tyMake (kids := []) (labels := []) 2 [105, 110, 116] false (((HM9.out.del 0).addNil 9 1).addNil 28 5) rfl rfl rfl⟩
  | cons p l =>
   obtain ⟨b, off, rfl, h0, h1, h2, h3, hk, ha⟩ := HL.out.at_ 0 p rfl
   rw [Nat.zero_mul, Nat.add_zero] at h0 h1 h2 h3
   have HT := Tre.hid (HL.out.tail)
   have hlen : (p :: l).length = l.length + 1 := rfl
   have e0 := cell_below (hB0.trans (M0.out.below.mono hB0.size)) h0
   have e1 := cell_below (hB0.trans (M0.out.below.mono hB0.size)) h1
   have e2 := cell_below (hB0.trans (M0.out.below.mono hB0.size)) h2
   have e3 := cell_below (hB0.trans (M0.out.below.mono hB0.size)) h3
   obtain ⟨kd, hkd⟩ : ∃ kd : Nat, p.kind % 5 = kd := ⟨_, rfl⟩
   have hk5 : (p.kind : Int) % 5 = (kd : Int) := by omega
   have hkl : kd ≤ 4 := by omega
   obtain ⟨a1, ha1, hsl⟩ := tail_slice b off l.length cap (by rw [hlen] at hcap; exact hcap)
   have HT1 : Hid (PrtsAt wb a1 l) := by
    show PrtsAt wb a1 l
    rcases ha1 with rfl | h0
    ·exact HT.out
    ·rw [List.eq_nil_of_length_eq_zero h0]; exact PrtsAt.nil _ _
   have hne : ((l.length : Int) + 1 == 0) = false := beq_eq_false_iff_ne.2 (by omega)
   have hpos : (0 : Int) < (l.length : Int) + 1 := by omega
   rw [hlen] at hlk hll hcap ⊢
   clear h0 h1 h2 h3 HL hlen hB0
   obtain ⟨n, hn⟩ : ∃ n, p.n = n := ⟨_, rfl⟩
   have hn4 : n ≤ 4 := by rw [← hn]; exact p.n_le
   have HN := Tre.hid hn
   obtain ⟨L, hL⟩ : ∃ L, p.labels = L := ⟨_, rfl⟩
   have HLB := Tre.hid hL
   have HKD := Tre.hid hkd
   have HRES : Hid (ofP (K + 1) (p :: l) = (.mk kd p.s (ofsF (ofP K) n l).1 L p.opn, (ofsF (ofP K) n l).2)) := by show _ = _; rw [ofP, hkd, hn, hL]
   have M2 := (M0.out.allocR #[.int .u8 p.kind, .string ⟨p.s.toArray⟩, .int .u8 p.args, .bool p.opn] 48).allocR #[.int .i64 (kd : Int), .string ⟨p.s.toArray⟩, .slice none 0 0, .slice none 0 0, .bool p.opn] 28
   simp only [World.size_alloc] at M2
   have HM2 := Tre.hid M2
   obtain ⟨ii, I1, I2, I3, I4⟩ := info_parts infoTy
   obtain ⟨ji, J1, J2, J3, J4⟩ := info_parts infoSt
   have HI2 := Tre.hid I2
   have HI3 := Tre.hid I3
   have HI4 := Tre.hid I4
   have HJ2 := Tre.hid J2
   have HJ3 := Tre.hid J3
   have HJ4 := Tre.hid J4
   clear M2 I2 I3 I4 J2 J3 J4 hn hL hkd
   by_cases hk3 : kd = 3
   ·have ek : ((kd : Int) == 3) = true := by rw [hk3]; rfl
    have hk3' := HKD.out
    rw [hk3] at hk3'
    have hL' : labs p.args 4 = L := by have := HLB.out; unfold Prt.labels at this; rw [if_pos hk3'] at this; exact this
    have hn' : L.length = n := by have := HN.out; unfold Prt.n at this; rw [if_pos hk3', hL'] at this; exact this
    have HL' := Tre.hid hL'
    have HN' := Tre.hid hn'
    clear hk3 hk3' hn' hL' M0 HT ha1
    go_enter Tryz.func8, Tryz.ntmps8
    go_wp2_with fail
    have HQ := Tre.hid (HM2.out.addNil 9 1)
    clear HM2
    generalize w.heap.size + 1 + 1 = tb at *
    generalize w.heap.size + 1 = pb at *
    generalize hrb : w.heap.size = rb at *
    clear e0 e1 e2 e3 hsl hne hk5
    go_loopw [6, 38] (fun v6 v38 wr => ∃ (i : Nat) (al : Option Addr) (cl : Nat), i ≤ 4 ∧ v38 = .int .i64 i ∧ v6 = .int .i64 ((labs p.args i).length : Nat) ∧ Hid (Mem w wr (rowR 9 1 (.slice al (labs p.args i).length cl) (labs p.args i).length ((labs p.args i).map fun x => .string ⟨x.toArray⟩) :: cellsR tb 28 #[.int .i64 (kd : Int), .string ⟨p.s.toArray⟩, .slice none 0 0, .slice al (labs p.args i).length cl, .bool p.opn] :: cellsR pb 48 #[.int .u8 p.kind, .string ⟨p.s.toArray⟩, .int .u8 p.args, .bool p.opn] :: cellsR rb 28 #[.int .i64 0, .string ⟨#[]⟩, .slice none 0 0, .slice none 0 0, .bool false] :: []))) (fun _ v38 _ => 4 - (intOf v38).toNat)
    case atStart => exact ⟨0, none, 0, Nat.zero_le _, rfl, rfl, HQ.out⟩
    case round =>
     clear HQ
     obtain ⟨i, al, cl, hi, rfl, rfl, HM⟩ := hrel
     by_cases hi4 : i < 4
     ·have hltI : (i : Int) < 4 := by omega
      obtain ⟨nm, hnm⟩ : ∃ nm, fieldName i = nm := ⟨_, rfl⟩
      have hix : ∀ w, (Instr.index 49 (.agg #[.string ⟨#[97]⟩, .string ⟨#[98]⟩, .string ⟨#[109]⟩, .string ⟨#[110]⟩]) (.int .i64 (i : Int))).run Tryz.prog w = .ok (.string ⟨nm.toArray⟩) w := fun w => by
       rw [← hnm]
       obtain rfl | rfl | rfl | rfl : i = 0 ∨ i = 1 ∨ i = 2 ∨ i = 3 := by omega
       all_goals kernel_rfl
      obtain ⟨sh, hsh⟩ : ∃ sh, p.args / 2 ^ i = sh := ⟨_, rfl⟩
      obtain ⟨bt, hbt⟩ : ∃ bt, sh % 2 = bt := ⟨_, rfl⟩
      have hs1 : (p.args : Int) / 2 ^ i = (sh : Int) := by rw [← hsh]; simp
      have hs2 : bits BinOp.and IntKind.u8 (sh : Int) 1 = (bt : Int) := by
       rw [← hbt]
       exact bits_and sh (by rw [← hsh]; exact Nat.lt_of_le_of_lt (Nat.div_le_self _ _) ha)
      have hwi : IntKind.u64.wrap (i : Int) = (i : Int) := by
       obtain rfl | rfl | rfl | rfl : i = 0 ∨ i = 1 ∨ i = 2 ∨ i = 3 := by omega
       all_goals rfl
      have hlab : labs p.args (i + 1) = labs p.args i ++ (if bt = 1 then [nm] else []) := by
       rw [labs, hnm]; unfold bitB; rw [hsh, hbt]; simp
      have HLAB := Tre.hid hlab
      have hll4 := labs_len p.args i
      have p2 : wr.cell? ⟨pb, 2, none⟩ = some (.int .u8 p.args) := HM.out.cell 2 rfl 2 rfl
      have t3 : wr.cell? ⟨tb, 3, none⟩ = some (.slice al (labs p.args i).length cl) := HM.out.cell 1 rfl 3 rfl
      have f3 := HM.out.free 1 rfl 3
      generalize labs p.args i = Li at *
      clear hsh hbt hnm hlab
      by_cases hb1 : bt = 1
      ·subst hb1
       have HLAB2 : Hid (labs p.args (i + 1) = Li ++ [nm]) := by show _ = _; rw [HLAB.out, if_pos rfl]
       have MB := HM.out.allocRow #[.string ⟨nm.toArray⟩] 9 1 1 (by unfold maxLen; omega) rfl
       have HMB := Tre.hid MB
       clear MB HLAB HM
       go_wp2_with (at_builtin; refine wpList_append_row _ rfl _ _ 26 rfl 9 ji _ 1 16 Tryz.underlying26 J1 HJ2.out HJ3.out HJ4.out rfl (by omega) (.slice al Li.length cl) Li.length (Li.map fun x => .string ⟨x.toArray⟩) rfl (HMB.out.row 1 rfl) (some ⟨wr.heap.size, 0, none⟩) 1 1 [.string ⟨nm.toArray⟩] rfl ⟨rfl, fun j u hj => ⟨_, 0, rfl, by rw [Nat.zero_add]; exact HMB.out.cellAt 0 rfl j hj⟩⟩ (by simp [Value.oneCell']) (by unfold maxLen; omega) (by omega) ?_; intro v9 w9 hown9 hgrow9 hat9; have M9 := HMB.out.grow 1 rfl hgrow9 hown9 hat9; obtain ⟨a9, c9, rfl, _⟩ := M9.val 1 rfl; have q6 : w9.cell? ⟨tb, 3, none⟩ = some (.slice al Li.length cl) := M9.cell 2 rfl 3 rfl; have f6 := M9.free 2 rfl 3; have HM9 := Tre.hid (M9.setCell 2 rfl 3 (.slice a9 (Li.length + 1) c9)); clear M9 hown9 hgrow9 hat9)
       go_roundw
       case rel =>
        refine ⟨i + 1, a9, c9, by omega, by go_num, ?_, ?_⟩
        ·rw [HLAB2.out]; simp
        ·show Mem _ _ _
         rw [HLAB2.out, List.map_append, List.length_append]
         exact HM9.out.del 0
       case measure => simp [intOf]; omega
      ·have hbe : ((bt : Int) == 1) = false := beq_eq_false_iff_ne.2 (by omega)
       have HLAB2 : Hid (labs p.args (i + 1) = Li) := by show _ = _; rw [HLAB.out, if_neg hb1, List.append_nil]
       clear HLAB hb1
       go_wp2_with fail
       go_roundw
       case rel => exact ⟨i + 1, al, cl, by omega, by go_num, by rw [HLAB2.out], by show Mem _ _ _; rw [HLAB2.out]; exact HM.out⟩
       case measure => simp [intOf]; omega
     ·obtain rfl : i = 4 := by omega
      obtain ⟨wo, hwo⟩ : ∃ wo : World, wo = wr := ⟨_, rfl⟩
      subst hwo
      rw [HL'.out] at HM ⊢
      have HQ := HM
      rw [HN'.out, show ((4 : Nat) : Int) = (4 : Int) from rfl]
      clear HM
      go_wp2_with fail
      go_loopw [0, 9] (fun v0 v9 wr => ∃ (j : Nat) (m : List Prt) (a' : Option Addr) (c' : Nat) (kids : List Kid) (aa : Option Addr) (ca : Nat), j ≤ n ∧ v9 = .int .i64 j ∧ v0 = .slice a' m.length c' ∧ m.length ≤ l.length ∧ m.length ≤ c' ∧ kids.length = j ∧ Hid (PrtsAt wb a' m) ∧ Hid ((ofsF (ofP K) n l).1 = kids.map Kid.t ++ (ofsF (ofP K) (n - j) m).1 ∧ (ofsF (ofP K) n l).2 = (ofsF (ofP K) (n - j) m).2) ∧
       Hid (Mem w wr (rowR 28 5 (.slice aa j ca) j (kidCells kids) :: rowR 9 1 (.slice al L.length cl) L.length (L.map fun x => .string ⟨x.toArray⟩) :: apartR kids :: cellsR tb 28 #[.int .i64 (kd : Int), .string ⟨p.s.toArray⟩, .slice aa j ca, .slice al L.length cl, .bool p.opn] :: cellsR pb 48 #[.int .u8 p.kind, .string ⟨p.s.toArray⟩, .int .u8 p.args, .bool p.opn] :: cellsR rb 28 #[.int .i64 0, .string ⟨#[]⟩, .slice none 0 0, .slice none 0 0, .bool false] :: []))) (fun _ v9 _ => n - (intOf v9).toNat)
      case atStart => exact ⟨0, l, a1, cap - 1, [], none, 0, Nat.zero_le _, rfl, rfl, Nat.le_refl _, by omega, rfl, HT1.out, ⟨by rw [Nat.sub_zero]; rfl, by rw [Nat.sub_zero]⟩, ((HQ.out.apartNil.front 1 rfl).addNil 28 5)⟩
      case round =>
       clear HQ
       obtain ⟨j, m, a', c', kids, aa, ca, hj, rfl, rfl, hml, hmc, hkl, HPM, HOF, HM⟩ := hrel
       by_cases hlt : j < n
       ·obtain ⟨k', hk'⟩ : ∃ k', n - j = k' + 1 := ⟨n - j - 1, by omega⟩
        have hk2 : n - (j + 1) = k' := by omega
        have hof := HOF.out
        rw [hk', ofsF] at hof
        have hltI : (j : Int) < (n : Int) := by omega
        have HC := Tre.hid (IH.out m a' c' wr (HB0.out.trans (HM.out.below.mono HB0.out.size)) (by omega) (by omega) hmc HPM.out)
        have hrest := ofP_rest K m
        obtain ⟨x, hx⟩ : ∃ x, ofP K m = x := ⟨_, rfl⟩
        rw [hx] at HC hof hrest
        obtain ⟨tx, mx⟩ := x
        have HOF2 := Tre.hid hof
        have HK2 := Tre.hid hk2
        clear hof HOF HPM hx hk' hk2
        go_wp2_with fail
        refine HC.out.mono ?_
        rintro e w2 ⟨O, xa, xl, ka, kl, a2, c2, rfl, hc2, hp2, m2⟩
        have M2 := HM.out.call m2
        have M3 := M2.allocR #[.int .i64 (tx.kind : Int), .string ⟨tx.s.toArray⟩, .slice xa tx.args.length ka, .slice xl tx.labels.length kl, .bool tx.opn] 28
        have MB := M3.allocRow #[.int .i64 (tx.kind : Int), .string ⟨tx.s.toArray⟩, .slice xa tx.args.length ka, .slice xl tx.labels.length kl, .bool tx.opn] 28 5 1 (by unfold maxLen; omega) rfl
        rw [World.size_alloc] at MB
        have HP2 := Tre.hid hp2
        have HM3 := Tre.hid M3
        have HMB := Tre.hid MB
        have z2 := M3.cell 5 rfl 2 rfl
        have b0 := M3.cell 0 rfl 0 rfl
        have b1 := M3.cell 0 rfl 1 rfl
        have b2 := M3.cell 0 rfl 2 rfl
        have b3 := M3.cell 0 rfl 3 rfl
        have b4 := M3.cell 0 rfl 4 rfl
        clear M2 M3 MB m2 hp2 HC HM
        go_wp2_with (at_builtin; refine wpList_append_row _ rfl _ _ 25 rfl 28 ii _ 5 80 Tryz.underlying25 I1 HI2.out HI3.out HI4.out rfl (by omega) (.slice aa j ca) j (kidCells kids) rfl (HMB.out.row 3 rfl) (some ⟨w2.heap.size + 1, 0, none⟩) 1 1 [.int .i64 (tx.kind : Int), .string ⟨tx.s.toArray⟩, .slice xa tx.args.length ka, .slice xl tx.labels.length kl, .bool tx.opn] rfl ⟨rfl, fun j u hj => ⟨_, 0, rfl, by rw [Nat.zero_add]; exact HMB.out.cellAt 0 rfl j hj⟩⟩ (by simp [Value.oneCell']) (by unfold maxLen; omega) (by omega) ?_; intro v9 w9 hown9 hgrow9 hat9; have M9 := HMB.out.grow 3 rfl hgrow9 hown9 hat9; obtain ⟨a9, c9, rfl, _⟩ := M9.val 3 rfl; have q6 : w9.cell? ⟨tb, 2, none⟩ = some (.slice aa j ca) := M9.cell 6 rfl 2 rfl; have f6 := M9.free 6 rfl 2; have HM9 := Tre.hid (M9.setCell 6 rfl 2 (.slice a9 (j + 1) c9)); clear M9 hown9 hgrow9 hat9)
        go_roundw
        case rel =>
         refine ⟨j + 1, mx, a2, c2, kids ++ [⟨tx, #[.int .i64 (tx.kind : Int), .string ⟨tx.s.toArray⟩, .slice xa tx.args.length ka, .slice xl tx.labels.length kl, .bool tx.opn], O⟩], a9, c9, by omega, by go_num, rfl, by omega, hc2, by simp [hkl], ?_, ?_, ?_⟩
         ·show PrtsAt _ _ _
          exact HP2.out
         ·show _ ∧ _
          have hof := HOF2.out
          rw [HK2.out]
          refine ⟨?_, hof.2⟩
          rw [hof.1, List.map_append, List.append_assoc]; rfl
         ·show Mem _ _ _
          have h1 := (HM9.out.del 0).del 0
          have h2 := ((h1.front 3 rfl).front 1 rfl)
          have h3 := (Mem.apartInto (k := ⟨tx, #[.int .i64 (tx.kind : Int), .string ⟨tx.s.toArray⟩, .slice xa tx.args.length ka, .slice xl tx.labels.length kl, .bool tx.opn], O⟩) h2)
          have h4 := (h3.front 2 rfl).front 2 rfl
          rw [kidCells_snoc]
          exact h4
        case measure => simp [intOf]; omega
       ·obtain rfl : j = n := by omega
        have hof := HOF.out
        rw [Nat.sub_self, ofsF, List.append_nil] at hof
        obtain ⟨ho1, ho2⟩ := hof
        have hltI : ¬ (j : Int) < (j : Int) := by omega
        have hr := HRES.out
        rw [ho1, ho2] at hr
        have HR2 := Tre.hid hr
        have y0 := HM.out.cell 3 rfl 0 rfl
        have y1 := HM.out.cell 3 rfl 1 rfl
        have y2 := HM.out.cell 3 rfl 2 rfl
        have y3 := HM.out.cell 3 rfl 3 rfl
        have y4 := HM.out.cell 3 rfl 4 rfl
        have r0 := HM.out.cell 5 rfl 0 rfl
        have r1 := HM.out.cell 5 rfl 1 rfl
        have r2 := HM.out.cell 5 rfl 2 rfl
        have r3 := HM.out.cell 5 rfl 3 rfl
        have r4 := HM.out.cell 5 rfl 4 rfl
        have f0 := HM.out.free 5 rfl 0
        have f1 := HM.out.free 5 rfl 1
        have f2 := HM.out.free 5 rfl 2
        have f3 := HM.out.free 5 rfl 3
        have f4 := HM.out.free 5 rfl 4
        have HM9 := Tre.hid (((((HM.out.setCell 5 rfl 0 (.int .i64 (kd : Int))).setCell 5 rfl 1 (.string ⟨p.s.toArray⟩)).setCell 5 rfl 2 (.slice aa j ca)).setCell 5 rfl 3 (.slice al L.length cl)).setCell 5 rfl 4 (.bool p.opn))
        clear HM HOF ho1 ho2 hr HRES
        go_wp2_with fail
        generalize ((((wr.setCell ⟨rb, 0, none⟩ (.int .i64 (kd : Int))).setCell ⟨rb, 1, none⟩ (.string ⟨p.s.toArray⟩)).setCell ⟨rb, 2, none⟩ (.slice aa j ca)).setCell ⟨rb, 3, none⟩ (.slice al L.length cl)).setCell ⟨rb, 4, none⟩ (.bool p.opn) = wz at HM9 ⊢
        have z0 : wz.cell? ⟨rb, 0, none⟩ = some (.int .i64 (kd : Int)) := HM9.out.cell 5 rfl 0 rfl
        have z1 : wz.cell? ⟨rb, 1, none⟩ = some (.string ⟨p.s.toArray⟩) := HM9.out.cell 5 rfl 1 rfl
        have z2 : wz.cell? ⟨rb, 2, none⟩ = some (.slice aa j ca) := HM9.out.cell 5 rfl 2 rfl
        have z3 : wz.cell? ⟨rb, 3, none⟩ = some (.slice al L.length cl) := HM9.out.cell 5 rfl 3 rfl
        have z4 : wz.cell? ⟨rb, 4, none⟩ = some (.bool p.opn) := HM9.out.cell 5 rfl 4 rfl
        refine bodyPost_ret (v := .tuple #[.agg #[.int .i64 (kd : Int), .string ⟨p.s.toArray⟩, .slice aa j ca, .slice al L.length cl, .bool p.opn], .slice a' m.length c']) (by simp [results, Tryz.results8, go_sem, z0, z1, z2, z3, z4]) rfl ?_
        rw [HR2.out]
        have MW := Mem.tyMake (labels := L) kd p.s p.opn HM9.out.apartRows hkl.symm rfl rfl
        have hlk2 : ((Ty.mk kd p.s (kids.map Kid.t) L p.opn, m) : Ty × List Prt).1.args.length = j := by show (kids.map Kid.t).length = j; rw [List.length_map]; exact hkl
        refine ⟨mkO (.slice aa j ca) (.slice al L.length cl) kids, aa, al, ca, cl, a', c', ?_, hmc, HPM.out, ?_⟩
        ·rw [hlk2]; rfl
        ·rw [hlk2]; have MW2 := MW.sub (List.Sublist.cons_cons _ (List.nil_sublist _)); exact MW2
   ·have ek : ((kd : Int) == 3) = false := beq_eq_false_iff_ne.2 (by omega)
    have hn' : n = p.args % 4 := by have := HN.out; unfold Prt.n at this; rw [if_neg (by have := HKD.out; omega)] at this; exact this.symm
    have hnI : (p.args : Int) % 4 = (n : Int) := by omega
    have hL' : L = [] := by have := HLB.out; unfold Prt.labels at this; rw [if_neg (by have := HKD.out; omega)] at this; exact this.symm
    clear hk3 hn' M0 HT ha1
    go_enter Tryz.func8, Tryz.ntmps8
    go_wp2_with fail
    have key : ∀ W, Mem w W (rowR 9 1 (.slice none 0 0) 0 [] :: cellsR (w.heap.size + 1 + 1) 28 #[.int .i64 (kd : Int), .string ⟨p.s.toArray⟩, .slice none 0 0, .slice none 0 0, .bool p.opn] :: cellsR (w.heap.size + 1) 48 #[.int .u8 p.kind, .string ⟨p.s.toArray⟩, .int .u8 p.args, .bool p.opn] :: cellsR w.heap.size 28 #[.int .i64 0, .string ⟨#[]⟩, .slice none 0 0, .slice none 0 0, .bool false] :: []) →
      ∃ (al : Option Addr) (cl : Nat), Hid (Mem w W (rowR 9 1 (.slice al L.length cl) L.length (L.map fun x => .string ⟨x.toArray⟩) :: cellsR (w.heap.size + 1 + 1) 28 #[.int .i64 (kd : Int), .string ⟨p.s.toArray⟩, .slice none 0 0, .slice al L.length cl, .bool p.opn] :: cellsR (w.heap.size + 1) 48 #[.int .u8 p.kind, .string ⟨p.s.toArray⟩, .int .u8 p.args, .bool p.opn] :: cellsR w.heap.size 28 #[.int .i64 0, .string ⟨#[]⟩, .slice none 0 0, .slice none 0 0, .bool false] :: [])) := fun W h => ⟨none, 0, by rw [hL']; exact h⟩
    obtain ⟨al, cl, HQ⟩ := key _ (HM2.out.addNil 9 1)
    clear HM2 key hL'
    generalize w.heap.size + 1 + 1 = tb at *
    generalize w.heap.size + 1 = pb at *
    generalize hrb : w.heap.size = rb at *
    clear e0 e1 e2 e3 hnI hsl hne hk5
    go_loopw [0, 9] (fun v0 v9 wr => ∃ (j : Nat) (m : List Prt) (a' : Option Addr) (c' : Nat) (kids : List Kid) (aa : Option Addr) (ca : Nat), j ≤ n ∧ v9 = .int .i64 j ∧ v0 = .slice a' m.length c' ∧ m.length ≤ l.length ∧ m.length ≤ c' ∧ kids.length = j ∧ Hid (PrtsAt wb a' m) ∧ Hid ((ofsF (ofP K) n l).1 = kids.map Kid.t ++ (ofsF (ofP K) (n - j) m).1 ∧ (ofsF (ofP K) n l).2 = (ofsF (ofP K) (n - j) m).2) ∧
     Hid (Mem w wr (rowR 28 5 (.slice aa j ca) j (kidCells kids) :: rowR 9 1 (.slice al L.length cl) L.length (L.map fun x => .string ⟨x.toArray⟩) :: apartR kids :: cellsR tb 28 #[.int .i64 (kd : Int), .string ⟨p.s.toArray⟩, .slice aa j ca, .slice al L.length cl, .bool p.opn] :: cellsR pb 48 #[.int .u8 p.kind, .string ⟨p.s.toArray⟩, .int .u8 p.args, .bool p.opn] :: cellsR rb 28 #[.int .i64 0, .string ⟨#[]⟩, .slice none 0 0, .slice none 0 0, .bool false] :: []))) (fun _ v9 _ => n - (intOf v9).toNat)
    case atStart => exact ⟨0, l, a1, cap - 1, [], none, 0, Nat.zero_le _, rfl, rfl, Nat.le_refl _, by omega, rfl, HT1.out, ⟨by rw [Nat.sub_zero]; rfl, by rw [Nat.sub_zero]⟩, ((HQ.out.apartNil.front 1 rfl).addNil 28 5)⟩
    case round =>
     clear HQ
     obtain ⟨j, m, a', c', kids, aa, ca, hj, rfl, rfl, hml, hmc, hkl, HPM, HOF, HM⟩ := hrel
     by_cases hlt : j < n
     ·obtain ⟨k', hk'⟩ : ∃ k', n - j = k' + 1 := ⟨n - j - 1, by omega⟩
      have hk2 : n - (j + 1) = k' := by omega
      have hof := HOF.out
      rw [hk', ofsF] at hof
      have hltI : (j : Int) < (n : Int) := by omega
      have HC := Tre.hid (IH.out m a' c' wr (HB0.out.trans (HM.out.below.mono HB0.out.size)) (by omega) (by omega) hmc HPM.out)
      have hrest := ofP_rest K m
      obtain ⟨x, hx⟩ : ∃ x, ofP K m = x := ⟨_, rfl⟩
      rw [hx] at HC hof hrest
      obtain ⟨tx, mx⟩ := x
      have HOF2 := Tre.hid hof
      have HK2 := Tre.hid hk2
      clear hof HOF HPM hx hk' hk2
      go_wp2_with fail
      refine HC.out.mono ?_
      rintro e w2 ⟨O, xa, xl, ka, kl, a2, c2, rfl, hc2, hp2, m2⟩
      have M2 := HM.out.call m2
      have M3 := M2.allocR #[.int .i64 (tx.kind : Int), .string ⟨tx.s.toArray⟩, .slice xa tx.args.length ka, .slice xl tx.labels.length kl, .bool tx.opn] 28
      have MB := M3.allocRow #[.int .i64 (tx.kind : Int), .string ⟨tx.s.toArray⟩, .slice xa tx.args.length ka, .slice xl tx.labels.length kl, .bool tx.opn] 28 5 1 (by unfold maxLen; omega) rfl
      rw [World.size_alloc] at MB
      have HP2 := Tre.hid hp2
      have HM3 := Tre.hid M3
      have HMB := Tre.hid MB
      have z2 := M3.cell 5 rfl 2 rfl
      have b0 := M3.cell 0 rfl 0 rfl
      have b1 := M3.cell 0 rfl 1 rfl
      have b2 := M3.cell 0 rfl 2 rfl
      have b3 := M3.cell 0 rfl 3 rfl
      have b4 := M3.cell 0 rfl 4 rfl
      clear M2 M3 MB m2 hp2 HC HM
      go_wp2_with (at_builtin; refine wpList_append_row _ rfl _ _ 25 rfl 28 ii _ 5 80 Tryz.underlying25 I1 HI2.out HI3.out HI4.out rfl (by omega) (.slice aa j ca) j (kidCells kids) rfl (HMB.out.row 3 rfl) (some ⟨w2.heap.size + 1, 0, none⟩) 1 1 [.int .i64 (tx.kind : Int), .string ⟨tx.s.toArray⟩, .slice xa tx.args.length ka, .slice xl tx.labels.length kl, .bool tx.opn] rfl ⟨rfl, fun j u hj => ⟨_, 0, rfl, by rw [Nat.zero_add]; exact HMB.out.cellAt 0 rfl j hj⟩⟩ (by simp [Value.oneCell']) (by unfold maxLen; omega) (by omega) ?_; intro v9 w9 hown9 hgrow9 hat9; have M9 := HMB.out.grow 3 rfl hgrow9 hown9 hat9; obtain ⟨a9, c9, rfl, _⟩ := M9.val 3 rfl; have q6 : w9.cell? ⟨tb, 2, none⟩ = some (.slice aa j ca) := M9.cell 6 rfl 2 rfl; have f6 := M9.free 6 rfl 2; have HM9 := Tre.hid (M9.setCell 6 rfl 2 (.slice a9 (j + 1) c9)); clear M9 hown9 hgrow9 hat9)
      go_roundw
      case rel =>
       refine ⟨j + 1, mx, a2, c2, kids ++ [⟨tx, #[.int .i64 (tx.kind : Int), .string ⟨tx.s.toArray⟩, .slice xa tx.args.length ka, .slice xl tx.labels.length kl, .bool tx.opn], O⟩], a9, c9, by omega, by go_num, rfl, by omega, hc2, by simp [hkl], ?_, ?_, ?_⟩
       ·show PrtsAt _ _ _
        exact HP2.out
       ·show _ ∧ _
        have hof := HOF2.out
        rw [HK2.out]
        refine ⟨?_, hof.2⟩
        rw [hof.1, List.map_append, List.append_assoc]; rfl
       ·show Mem _ _ _
        have h1 := (HM9.out.del 0).del 0
        have h2 := ((h1.front 3 rfl).front 1 rfl)
        have h3 := (Mem.apartInto (k := ⟨tx, #[.int .i64 (tx.kind : Int), .string ⟨tx.s.toArray⟩, .slice xa tx.args.length ka, .slice xl tx.labels.length kl, .bool tx.opn], O⟩) h2)
        have h4 := (h3.front 2 rfl).front 2 rfl
        rw [kidCells_snoc]
        exact h4
      case measure => simp [intOf]; omega
     ·obtain rfl : j = n := by omega
      have hof := HOF.out
      rw [Nat.sub_self, ofsF, List.append_nil] at hof
      obtain ⟨ho1, ho2⟩ := hof
      have hltI : ¬ (j : Int) < (j : Int) := by omega
      have hr := HRES.out
      rw [ho1, ho2] at hr
      have HR2 := Tre.hid hr
      have y0 := HM.out.cell 3 rfl 0 rfl
      have y1 := HM.out.cell 3 rfl 1 rfl
      have y2 := HM.out.cell 3 rfl 2 rfl
      have y3 := HM.out.cell 3 rfl 3 rfl
      have y4 := HM.out.cell 3 rfl 4 rfl
      have r0 := HM.out.cell 5 rfl 0 rfl
      have r1 := HM.out.cell 5 rfl 1 rfl
      have r2 := HM.out.cell 5 rfl 2 rfl
      have r3 := HM.out.cell 5 rfl 3 rfl
      have r4 := HM.out.cell 5 rfl 4 rfl
      have f0 := HM.out.free 5 rfl 0
      have f1 := HM.out.free 5 rfl 1
      have f2 := HM.out.free 5 rfl 2
      have f3 := HM.out.free 5 rfl 3
      have f4 := HM.out.free 5 rfl 4
      have HM9 := Tre.hid (((((HM.out.setCell 5 rfl 0 (.int .i64 (kd : Int))).setCell 5 rfl 1 (.string ⟨p.s.toArray⟩)).setCell 5 rfl 2 (.slice aa j ca)).setCell 5 rfl 3 (.slice al L.length cl)).setCell 5 rfl 4 (.bool p.opn))
      clear HM HOF ho1 ho2 hr HRES
      go_wp2_with fail
      generalize ((((wr.setCell ⟨rb, 0, none⟩ (.int .i64 (kd : Int))).setCell ⟨rb, 1, none⟩ (.string ⟨p.s.toArray⟩)).setCell ⟨rb, 2, none⟩ (.slice aa j ca)).setCell ⟨rb, 3, none⟩ (.slice al L.length cl)).setCell ⟨rb, 4, none⟩ (.bool p.opn) = wz at HM9 ⊢
      have z0 : wz.cell? ⟨rb, 0, none⟩ = some (.int .i64 (kd : Int)) := HM9.out.cell 5 rfl 0 rfl
      have z1 : wz.cell? ⟨rb, 1, none⟩ = some (.string ⟨p.s.toArray⟩) := HM9.out.cell 5 rfl 1 rfl
      have z2 : wz.cell? ⟨rb, 2, none⟩ = some (.slice aa j ca) := HM9.out.cell 5 rfl 2 rfl
      have z3 : wz.cell? ⟨rb, 3, none⟩ = some (.slice al L.length cl) := HM9.out.cell 5 rfl 3 rfl
      have z4 : wz.cell? ⟨rb, 4, none⟩ = some (.bool p.opn) := HM9.out.cell 5 rfl 4 rfl
      refine bodyPost_ret (v := .tuple #[.agg #[.int .i64 (kd : Int), .string ⟨p.s.toArray⟩, .slice aa j ca, .slice al L.length cl, .bool p.opn], .slice a' m.length c']) (by simp [results, Tryz.results8, go_sem, z0, z1, z2, z3, z4]) rfl ?_
      rw [HR2.out]
      have MW := Mem.tyMake (labels := L) kd p.s p.opn HM9.out.apartRows hkl.symm rfl rfl
      have hlk2 : ((Ty.mk kd p.s (kids.map Kid.t) L p.opn, m) : Ty × List Prt).1.args.length = j := by show (kids.map Kid.t).length = j; rw [List.length_map]; exact hkl
      refine ⟨mkO (.slice aa j ca) (.slice al L.length cl) kids, aa, al, ca, cl, a', c', ?_, hmc, HPM.out, ?_⟩
      ·rw [hlk2]; rfl
      ·rw [hlk2]; have MW2 := MW.sub (List.Sublist.cons_cons _ (List.nil_sublist _)); exact MW2
end Go.Proofs.YtbafalfmgibnfaaGreatDoor.part
namespace Go.Proofs.YtbafalfmgibnfaaGreatDoor.typ
open Go.RowKit Go.Maps Go.Tre lex
def LabAt (w : World) (al : Option Addr) (l : List (List UInt8)) : Prop := ∀ (i : Nat) (x : List UInt8), l[i]? = some x → ∃ b off, al = some ⟨b, off, none⟩ ∧ w.cell? ⟨b, off + i, none⟩ = some (.string ⟨x.toArray⟩)
theorem LabAt.below {w w' : World} {al : Option Addr} {l : List (List UInt8)} (h : LabAt w al l) (hb : Below w.heap.size w w') : LabAt w' al l := fun i x hx => by
 obtain ⟨b, off, e, hc⟩ := h i x hx
 exact ⟨b, off, e, cell_below hb hc⟩
set_option maxRecDepth 100000 in
set_option maxHeartbeats 2000000 in
theorem names_any (a b : Option Addr) (ca cb : Nat) (x y : List (List UInt8)) (w : World) (hx : LabAt w a x) (hy : LabAt w b y) (hlx : x.length ≤ 8388608) :
  Calls Tryz.prog 22 #[.slice a x.length ca, .slice b y.length cb] w fun e w' => ∃ r, e = .returned (.bool r) ∧ (x = y → r = true) ∧ Below w.heap.size w w' := by
 have HX := Tre.hid hx
 have HY := Tre.hid hy
 clear hx hy
 by_cases hl : x.length = y.length
 rotate_left
 ·have h1 : ¬ ((x.length : Int) = (y.length : Int)) := by omega
  have HN := Tre.hid hl
  clear hl
  go_enter Tryz.func22, Tryz.ntmps22
  go_wp2_with fail
  go_ret
  exact ⟨false, rfl, fun e => absurd (by rw [e]) HN.out, Below.refl ..⟩
 ·obtain ⟨n, hn⟩ : ∃ n, x.length = n := ⟨_, rfl⟩
  have hny : y.length = n := by rw [← hl, hn]
  have HNX := Tre.hid hn
  have HNY := Tre.hid hny
  rw [hn] at hlx
  rw [hn, hny]
  clear hl hn hny
  go_enter Tryz.func22, Tryz.ntmps22
  go_wp2_with fail
  go_loopw [13] (fun v13 wr => ∃ k : Nat, k ≤ n ∧ v13 = .int .i64 k ∧ Hid (Below w.heap.size w wr)) (fun v13 _ => n - (intOf v13).toNat)
  case atStart => exact ⟨0, Nat.zero_le _, rfl, Below.refl ..⟩
  case round =>
   obtain ⟨k, hk, rfl, hb⟩ := hrel
   by_cases hlt : k < n
   ·obtain ⟨s, hs⟩ : ∃ s, x[k]? = some s := ⟨_, List.getElem?_eq_getElem (by rw [HNX.out]; exact hlt)⟩
    obtain ⟨r, hr⟩ : ∃ r, y[k]? = some r := ⟨_, List.getElem?_eq_getElem (by rw [HNY.out]; exact hlt)⟩
    obtain ⟨b1, o1, rfl, c1⟩ := HX.out k s hs
    obtain ⟨b2, o2, rfl, c2⟩ := HY.out k r hr
    have d1 := cell_below hb.out c1
    have d2 := cell_below hb.out c2
    have i1 : (k : Int) < (n : Int) := by omega
    have HS := Tre.hid hs
    have HR := Tre.hid hr
    clear hs hr c1 c2
    by_cases he : s = r
    ·subst he
     go_wp2_with fail
     go_region
     have HB2 : Hid (Below w.heap.size w wr.drew) := hb.out.trans ((Below.refl wr.heap.size wr).drew.mono hb.out.size)
     go_wp2_with fail
     go_roundw
     case rel => exact ⟨k + 1, by omega, by go_num, HB2.out⟩
     case measure => simp [intOf]; omega
    ·have e1 : (s == r) = false := by simpa using he
     have HE := Tre.hid he
     have e2 : (s = r) = False := by simpa using he
     clear he
     go_wp2_with fail
     go_region
     have HB2 : Hid (Below w.heap.size w wr.drew) := hb.out.trans ((Below.refl wr.heap.size wr).drew.mono hb.out.size)
     go_wp2_with fail
     go_ret
     refine ⟨false, rfl, fun e => ?_, HB2.out⟩
     subst e
     have := HS.out.symm.trans HR.out
     exact absurd (Option.some.inj this) HE.out
   ·have e : k = n := by omega
    subst e
    go_wp2_with fail
    go_ret
    exact ⟨true, rfl, fun _ => rfl, hb.out⟩
end Go.Proofs.YtbafalfmgibnfaaGreatDoor.typ
namespace Go.Proofs.YtbafalfmgibnfaaGreatDoor.typ
open Go.RowKit Go.Maps Go.Tre lex
abbrev fiveV (c : Ty) (ax bx : Option Addr) (cx dx : Nat) : Array Value := #[.int .i64 c.kind, .string ⟨c.s.toArray⟩, .slice ax c.args.length cx, .slice bx c.labels.length dx, .bool c.opn]
def ArgAt (w : World) (a : Option Addr) (l : List Ty) : Prop := ∀ (i : Nat) (c : Ty), l[i]? = some c → ∃ b off ax cx bx dx, a = some ⟨b, off, none⟩ ∧ TyRd w c (.agg (fiveV c ax bx cx dx)) ∧ ∀ (j : Nat) (u : Value), (fiveV c ax bx cx dx)[j]? = some u → w.cell? ⟨b, off + i * 5 + j, none⟩ = some u
theorem tyRd_parts {w : World} {t : Ty} {aa al : Option Addr} {n m ca cl : Nat} {k : Value} {s o : Value} (h : TyRd w t (.agg #[k, s, .slice aa n ca, .slice al m cl, o])) : ArgAt w aa t.args ∧ LabAt w al t.labels := by
 cases h with
 | mk V hlab hcell hargs =>
  refine ⟨fun i c hc => ?_, fun i x hx => hlab i x hx⟩
  obtain ⟨ax, cx, bx, dx, ev⟩ := (hargs i c hc).agg
  obtain ⟨b, off, e, _, hk⟩ := hcell i (List.getElem?_eq_some_iff.1 hc).1
  have hr := hargs i c hc
  rw [ev] at hr
  rw [Value.agg.inj ev] at hk
  exact ⟨b, off, ax, cx, bx, dx, e, hr, hk⟩
def YesPost (T : Prop) (w : World) (e : Ending) (w' : World) : Prop := ∃ r, e = .returned (.bool r) ∧ (T → r = true) ∧ Below w.heap.size w w'
theorem yesPost {T : Prop} {w w' : World} {r : Bool} (h : T → r = true) (hb : Below w.heap.size w w') : YesPost T w (.returned (.bool r)) w' := ⟨r, rfl, h, hb⟩
def STy (t u : Ty) (v v' : Value) (w : World) : Prop := Calls Tryz.prog 13 #[v, v'] w (YesPost (t = u) w)
set_option maxRecDepth 100000 in
set_option maxHeartbeats 4000000 in
theorem types_any (a b : Option Addr) (ca cb : Nat) (x y : List Ty) (w : World) (hx : ArgAt w a x) (hy : ArgAt w b y) (hlx : x.length ≤ 8388608)
  (ih : ∀ (t u : Ty) (v v' : Value) (W : World), t ∈ x → TyRd W t v → TyRd W u v' → STy t u v v' W) :
  Calls Tryz.prog 23 #[.slice a x.length ca, .slice b y.length cb] w fun e w' => ∃ r, e = .returned (.bool r) ∧ (x = y → r = true) ∧ Below w.heap.size w w' := by
 have HX := Tre.hid hx
 have HY := Tre.hid hy
 have HI := Tre.hid ih
 clear hx hy ih
 by_cases hl : x.length = y.length
 rotate_left
 ·have h1 : ¬ ((x.length : Int) = (y.length : Int)) := by omega
  have HN := Tre.hid hl
  clear hl
  go_enter Tryz.func23, Tryz.ntmps23
  go_wp2_with fail
  go_ret
  exact ⟨false, rfl, fun e => absurd (by rw [e]) HN.out, Below.refl ..⟩
 ·obtain ⟨n, hn⟩ : ∃ n, x.length = n := ⟨_, rfl⟩
  have hny : y.length = n := by rw [← hl, hn]
  have HNX := Tre.hid hn
  have HNY := Tre.hid hny
  rw [hn] at hlx
  rw [hn, hny]
  clear hl hn hny
  go_enter Tryz.func23, Tryz.ntmps23
  go_wp2_with fail
  go_loopw [13] (fun v13 wr => ∃ k : Nat, k ≤ n ∧ v13 = .int .i64 k ∧ Hid (Below w.heap.size w wr)) (fun v13 _ => n - (intOf v13).toNat)
  case atStart => exact ⟨0, Nat.zero_le _, rfl, Below.refl ..⟩
  case round =>
   obtain ⟨k, hk, rfl, hb⟩ := hrel
   by_cases hlt : k < n
   ·obtain ⟨s, hs⟩ : ∃ s, x[k]? = some s := ⟨_, List.getElem?_eq_getElem (by rw [HNX.out]; exact hlt)⟩
    obtain ⟨r, hr⟩ : ∃ r, y[k]? = some r := ⟨_, List.getElem?_eq_getElem (by rw [HNY.out]; exact hlt)⟩
    obtain ⟨b1, o1, a1, c1, l1, d1, rfl, t1, k1⟩ := HX.out k s hs
    obtain ⟨b2, o2, a2, c2, l2, d2, rfl, t2, k2⟩ := HY.out k r hr
    have x0 : wr.cell? ⟨b1, o1 + k * 5, none⟩ = some (.int .i64 s.kind) := cell_below hb.out (k1 0 _ rfl)
    have x1 : wr.cell? ⟨b1, o1 + k * 5 + 1, none⟩ = some (.string ⟨s.s.toArray⟩) := cell_below hb.out (k1 1 _ rfl)
    have x2 : wr.cell? ⟨b1, o1 + k * 5 + 2, none⟩ = some (.slice a1 s.args.length c1) := cell_below hb.out (k1 2 _ rfl)
    have x3 : wr.cell? ⟨b1, o1 + k * 5 + 3, none⟩ = some (.slice l1 s.labels.length d1) := cell_below hb.out (k1 3 _ rfl)
    have x4 : wr.cell? ⟨b1, o1 + k * 5 + 4, none⟩ = some (.bool s.opn) := cell_below hb.out (k1 4 _ rfl)
    have y0 : wr.cell? ⟨b2, o2 + k * 5, none⟩ = some (.int .i64 r.kind) := cell_below hb.out (k2 0 _ rfl)
    have y1 : wr.cell? ⟨b2, o2 + k * 5 + 1, none⟩ = some (.string ⟨r.s.toArray⟩) := cell_below hb.out (k2 1 _ rfl)
    have y2 : wr.cell? ⟨b2, o2 + k * 5 + 2, none⟩ = some (.slice a2 r.args.length c2) := cell_below hb.out (k2 2 _ rfl)
    have y3 : wr.cell? ⟨b2, o2 + k * 5 + 3, none⟩ = some (.slice l2 r.labels.length d2) := cell_below hb.out (k2 3 _ rfl)
    have y4 : wr.cell? ⟨b2, o2 + k * 5 + 4, none⟩ = some (.bool r.opn) := cell_below hb.out (k2 4 _ rfl)
    have i1 : (k : Int) < (n : Int) := by omega
    have i2 : (0 : Int) ≤ (k : Int) := by omega
    have HC : Hid (∀ W, Below w.heap.size w W → STy s r (.agg (fiveV s a1 l1 c1 d1)) (.agg (fiveV r a2 l2 c2 d2)) W) := fun W hW => HI.out s r _ _ W (List.mem_of_getElem? hs) (t1.after hW) (t2.after hW)
    have HE : Hid (x = y → s = r) := fun e => by
     subst e
     exact Option.some.inj (hs.symm.trans hr)
    clear hs hr t1 t2 k1 k2
    go_wp2_with fail
    go_region_held3 (fun w' => Below wr.heap.size wr w' ∧ w'.cell? ⟨b1, o1 + k * 5, none⟩ = some (.int .i64 s.kind) ∧ w'.cell? ⟨b1, o1 + k * 5 + 1, none⟩ = some (.string ⟨s.s.toArray⟩) ∧ w'.cell? ⟨b1, o1 + k * 5 + 2, none⟩ = some (.slice a1 s.args.length c1) ∧ w'.cell? ⟨b1, o1 + k * 5 + 3, none⟩ = some (.slice l1 s.labels.length d1) ∧ w'.cell? ⟨b1, o1 + k * 5 + 4, none⟩ = some (.bool s.opn) ∧
      w'.cell? ⟨b2, o2 + k * 5, none⟩ = some (.int .i64 r.kind) ∧ w'.cell? ⟨b2, o2 + k * 5 + 1, none⟩ = some (.string ⟨r.s.toArray⟩) ∧ w'.cell? ⟨b2, o2 + k * 5 + 2, none⟩ = some (.slice a2 r.args.length c2) ∧ w'.cell? ⟨b2, o2 + k * 5 + 3, none⟩ = some (.slice l2 r.labels.length d2) ∧ w'.cell? ⟨b2, o2 + k * 5 + 4, none⟩ = some (.bool r.opn))
     (first
      | exact ⟨(Below.refl _ _).drew, x0, x1, x2, x3, x4, y0, y1, y2, y3, y4⟩
      | exact ⟨((Below.refl _ _).drew).trans hb9, cell_below hb9 x0, cell_below hb9 x1, cell_below hb9 x2, cell_below hb9 x3, cell_below hb9 x4, cell_below hb9 y0, cell_below hb9 y1, cell_below hb9 y2, cell_below hb9 y3, cell_below hb9 y4⟩
      | go_keep)
     (first | (go_at_call 13; refine Calls.mono (HC.out _ ?_) ?_; exact hb.out.trans ((Below.refl wr.heap.size wr).drew.mono hb.out.size); rintro e w9 ⟨r9, rfl, hr9, hb9⟩))
    have hh := (show Below wr.heap.size wr w9 ∧ _ from by assumption)
    have HB2 := Tre.hid (hb.out.trans (hh.1.mono hb.out.size))
    have HR9 := Tre.hid hr9
    clear hh hr9 x0 x1 x2 x3 x4 y0 y1 y2 y3 y4
    rename_i hh1
    clear hh1
    cases r9 with
    | true =>
     go_wp2_with fail
     go_roundw
     case rel => exact ⟨k + 1, by omega, by go_num, HB2.out⟩
     case measure => simp [intOf]; omega
    | false =>
     go_wp2_with fail
     go_ret
     exact ⟨false, rfl, fun e => HR9.out (HE.out e), HB2.out⟩
   ·have e : k = n := by omega
    subst e
    go_wp2_with fail
    go_ret
    exact ⟨true, rfl, fun _ => rfl, hb.out⟩
end Go.Proofs.YtbafalfmgibnfaaGreatDoor.typ
