/- load.Read, where what is read means nothing but itself. Layers 7, 9, plain: the texts of canon's example. Layer 7, plain: the document's example, its texts. Layer 7: the document's example. Layer 3, plain: a type out of its parts in prefix order. A row of parts without its first one. -/
import Derived.Test.YtljmcmdabdlldaaGreatDoorB29
import Derived.Test.YtljmcmdabdlldaaGreatDoorB33
import Derived.Test.YtljmcmdabdlldaaGreatDoorB00
import Derived.Test.YtljmcmdabdlldaaGreatDoorB01
import Derived.Test.YtljmcmdabdlldaaGreatDoorB08
import Derived.Test.YtljmcmdabdlldaaGreatDoorB27
set_option linter.unusedVariables false
namespace Go.Tre
structure ReadsBad (s : List UInt8) : Type where
 ts : List Tok
 k : Nat
 t : Ty
 j : Nat
 lex : lexS s = some ts
 pos : 0 < ts.length
 few : ts.length ≤ 4194304
 text : idxFunc Go.Proofs.YtljmcmdabdlldaaGreatDoor.typ.noEnd ts = ((ts.length - 1 : Nat) : Int)
 parse : pLev ts k 0 0 = some (t, j)
 last : (ts[j]?).map Tok.kind = some 0
 may : verdictI (walkT t) = 0
 small : t.weight ≤ 4194304
 fails : LoadFails t
end Go.Tre
namespace Go.Proofs.YtljmcmdabdlldaaGreatDoor.load
open Go.RowKit Go.Maps Go.Shelf Go.Tre lex gr tree typ
set_option maxRecDepth 100000 in
set_option maxHeartbeats 16000000 in
theorem Read_bad (s : ByteArray) (r : ReadsBad s.data.toList) (w : World) (hs : s.size ≤ 4194304) (E : LexEnv w) :
  Calls Tryz.prog 19 #[.string s] w fun e w' =>
   e = .returned (.tuple #[.agg #[.slice none 0 0, .int .i64 0], .int .i64 6]) ∧ Below w.heap.size w w' := by
 have M0 := (Mem.nil w).allocR #[.slice none 0 0, .int .i64 0] 33
 have HM0 := Tre.hid M0
 have hlx := lex.Lex s _ hs (E.below M0.below)
 rw [r.lex] at hlx
 have HLX := Tre.hid hlx
 have HX := Tre.hid E.max
 clear hlx E M0
 go_enter Tryz.func19, Tryz.ntmps19
 go_wp2_with fail
 refine HLX.out.mono ?_
 intro e w1 hp
 rcases hp with ⟨ts, v, hts, rfl, m1⟩ | ⟨hd, _⟩
 rotate_left
 ·cases hd
 cases hts
 have M1 := HM0.out.call m1
 obtain ⟨at_, ct, rfl, _⟩ := M1.val 0 rfl
 have HM1 := Tre.hid M1
 have HTK := Tre.hid (toks_of M1 0 rfl rfl)
 obtain ⟨tok, htok⟩ : ∃ tok, r.ts[r.j]? = some tok := by
  have h := r.last
  cases hx : r.ts[r.j]? with
  | none => rw [hx] at h; cases h
  | some tok => exact ⟨tok, rfl⟩
 have hk0 : tok.kind = 0 := by have h := r.last; rw [htok] at h; simpa using h
 have hjl : r.j < r.ts.length := (List.getElem?_eq_some_iff.1 htok).1
 have HP := Tre.hid (Parse_ok at_ ct r.ts 0 r.k r.j r.t w1 HTK.out r.few r.pos r.text r.pos r.parse r.may r.small (HX.out.below M1.below))
 clear M1 m1 HLX HM0
 go_wp2_with fail
 refine HP.out.mono ?_
 rintro e w2 ⟨O, aa, ca, al, cl, rfl, m2⟩
 have M2 := HM1.out.call m2
 have M3 := M2.allocR #[.int .i64 r.t.kind, .string ⟨r.t.s.toArray⟩, .slice aa r.t.args.length ca, .slice al r.t.labels.length cl, .bool r.t.opn] 28
 have HM3 := Tre.hid M3
 have hw1 := (HTK.out.below m2.below).below ((Below.refl w2.heap.size w2).alloc (Nat.le_refl _) (.cells #[.int .i64 r.t.kind, .string ⟨r.t.s.toArray⟩, .slice aa r.t.args.length ca, .slice al r.t.labels.length cl, .bool r.t.opn] 28))
 obtain ⟨bt, ot, rfl, a0, _, _, _⟩ := hw1.tok htok
 rw [hk0] at a0
 have hjI : (r.j : Int) < (r.ts.length : Int) := by omega
 have y0 := M3.cell 0 rfl 0 rfl
 have y1 := M3.cell 0 rfl 1 rfl
 have y2 := M3.cell 0 rfl 2 rfl
 have y3 := M3.cell 0 rfl 3 rfl
 have y4 := M3.cell 0 rfl 4 rfl
 have hty := M3.at_ 1 rfl
 obtain ⟨ad, hE, h0⟩ : ∃ ad : Nat → Addr, EntsAt ((w2.alloc (.cells #[.int .i64 r.t.kind, .string ⟨r.t.s.toArray⟩, .slice aa r.t.args.length ca, .slice al r.t.labels.length cl, .bool r.t.opn] 28)).alloc (.cells #[.int .i64 r.t.kind, .string ⟨r.t.s.toArray⟩, .slice aa r.t.args.length ca, .slice al r.t.labels.length cl, .bool r.t.opn] 28)) (flat r.t 0) ad ∧ ad 0 = ⟨(w2.alloc (.cells #[.int .i64 r.t.kind, .string ⟨r.t.s.toArray⟩, .slice aa r.t.args.length ca, .slice al r.t.labels.length cl, .bool r.t.opn] 28)).heap.size, 0, none⟩ := by
  have M4 := M3.allocR #[.int .i64 r.t.kind, .string ⟨r.t.s.toArray⟩, .slice aa r.t.args.length ca, .slice al r.t.labels.length cl, .bool r.t.opn] 28
  have ht4 := M4.at_ 2 rfl
  refine ents_of ht4.1 (fun j u hu => by rw [Nat.zero_add]; exact M4.cell 0 rfl j hu) ⟨_, _, M4.heap 0 rfl⟩ (fun h => ?_)
  exact Nat.lt_irrefl _ (hty.2 _ h)
 have HLD := Tre.hid (Load_bad r.t aa al ca cl _ hty.1.rd r.may r.small (HX.out.below M3.below) ad hE h0 r.fails)
 clear M2 M3 hw1 hty hE h0 htok hk0 hjl HTK HM1 HP m2
 go_wp2_with fail
 refine HLD.out.mono ?_
 rintro e w5 ⟨rfl, b5⟩
 have M5 := HM3.out.quiet b5
 have g0 : w5.cell? ⟨w.heap.size, 0, none⟩ = some (.slice none 0 0) := M5.cell 3 rfl 0 rfl
 have g1 : w5.cell? ⟨w.heap.size, 1, none⟩ = some (.int .i64 0) := M5.cell 3 rfl 1 rfl
 have f0 := M5.free 3 rfl 0
 have f1 := M5.free 3 rfl 1
 have M9 := (M5.setCell 3 rfl 0 (.slice none 0 0)).setCell 3 rfl 1 (.int .i64 0)
 have HM9 := Tre.hid M9
 clear M5 M9 b5 HLD HM3 y0 y1 y2 y3 y4 a0
 go_wp2_with fail
 generalize (w5.setCell ⟨w.heap.size, 0, none⟩ (.slice none 0 0)).setCell ⟨w.heap.size, 1, none⟩ (.int .i64 0) = wz at HM9 ⊢
 have z0 : wz.cell? ⟨w.heap.size, 0, none⟩ = some (.slice none 0 0) := HM9.out.cell 3 rfl 0 rfl
 have z1 : wz.cell? ⟨w.heap.size, 1, none⟩ = some (.int .i64 0) := HM9.out.cell 3 rfl 1 rfl
 refine bodyPost_ret (v := .tuple #[.agg #[.slice none 0 0, .int .i64 0], .int .i64 6]) (by simp [results, Tryz.results19, go_sem, z0, z1]) rfl ?_
 exact ⟨rfl, HM9.out.below⟩
end Go.Proofs.YtljmcmdabdlldaaGreatDoor.load
namespace Go.Tre
theorem smallT_of {T : List Ent} (h : (T.all fun e => decide (e.s.length ≤ 4194304) && (decide (e.args.length ≤ 4194304) && decide (e.labels.length ≤ 4194304))) = true) : SmallT T := by
 rw [List.all_eq_true] at h
 have key : ∀ (i : Nat) (e : Ent), T[i]? = some e → e.s.length ≤ 4194304 ∧ e.args.length ≤ 4194304 ∧ e.labels.length ≤ 4194304 := fun i e he => by
  have := h e (List.mem_of_getElem? he)
  simpa [Bool.and_eq_true] using this
 exact ⟨fun i e he => (key i e he).1, fun i e he => (key i e he).2.1, fun i e he => (key i e he).2.2⟩
def tyInt : Ty := .mk 2 [105, 110, 116] [] [] false
def tyA : Ty := .mk 4 [97] [.mk 2 [45, 62] [tyInt, .mk 2 [45, 62] [tyInt, .mk 1 [97] [] [] false] [] false] [] false] [] false
def tyB : Ty := .mk 4 [97] [.mk 2 [45, 62] [tyInt, .mk 1 [97] [] [] false] [] false] [] false
def bdA : ByteArray → Option Nat := upd (fun _ => none) ⟨[97].toArray⟩ 0
def stOf (t : Ty) : LSt := ((node1 (flat t 0) (bdA, 1) 40 0 ⟨fun _ => none, fun _ => none, []⟩).getD (0, ⟨fun _ => none, fun _ => none, []⟩)).2
def graphOf (t : Ty) : Tre.Graph := (Tre.Graph.mk (stOf t).ns ((0 : Nat) : Int)).trim
def toksA : List Tok := [⟨1, 0, 0, [105, 110, 116]⟩, ⟨6, 4, 0, [45, 62]⟩, ⟨1, 7, 0, [105, 110, 116]⟩, ⟨6, 11, 0, [45, 62]⟩, ⟨5, 14, 0, [97]⟩, ⟨2, 17, 0, [97, 115]⟩, ⟨5, 20, 0, [97]⟩, ⟨0, 22, 0, []⟩]
def toksB : List Tok := [⟨1, 0, 0, [105, 110, 116]⟩, ⟨6, 4, 0, [45, 62]⟩, ⟨5, 7, 0, [97]⟩, ⟨2, 10, 0, [97, 115]⟩, ⟨5, 13, 0, [97]⟩, ⟨0, 15, 0, []⟩]
theorem followA (T : List Ent) (h : follow1 T bdA 4 0 = some 1) : ∀ s x, bdA s = some x → ∃ r, follow1 T bdA (2 * 1 + 2) x = some r := by
 intro s x hs
 unfold bdA upd at hs
 split at hs
 ·cases hs; exact ⟨1, h⟩
 ·cases hs
def readsA : ReadsAs [105, 110, 116, 32, 45, 62, 32, 105, 110, 116, 32, 45, 62, 32, 39, 97, 32, 97, 115, 32, 39, 97] (graphOf tyA) where
 ts := toksA
 k := 40
 t := tyA
 j := 7
 bd := bdA
 n := 1
 a := 0
 st := stOf tyA
 lex := lexS_of (by decide) (by decide)
 pos := by decide
 few := by decide
 text := by decide
 parse := by rfl
 last := by rfl
 may := by decide +kernel
 small := by decide +kernel
 smallT := smallT_of (by decide +kernel)
 bind := by rfl
 nsmall := by decide
 follow := followA _ (by rfl)
 node := by rfl
 nlen := by decide +kernel
 weight := by decide +kernel
 graph := rfl
def readsB : ReadsAs [105, 110, 116, 32, 45, 62, 32, 39, 97, 32, 97, 115, 32, 39, 97] (graphOf tyB) where
 ts := toksB
 k := 40
 t := tyB
 j := 5
 bd := bdA
 n := 1
 a := 0
 st := stOf tyB
 lex := lexS_of (by decide) (by decide)
 pos := by decide
 few := by decide
 text := by decide
 parse := by rfl
 last := by rfl
 may := by decide +kernel
 small := by decide +kernel
 smallT := smallT_of (by decide +kernel)
 bind := by rfl
 nsmall := by decide
 follow := followA _ (by rfl)
 node := by rfl
 nlen := by decide +kernel
 weight := by decide +kernel
 graph := rfl
end Go.Tre
namespace Go.Tre
def tyM : Ty := .mk 4 [97] [.mk 3 [] [.mk 1 [97] [] [] false] [[109]] false] [] false
def toksM : List Tok := [⟨6, 0, 0, [60]⟩, ⟨1, 2, 0, [109]⟩, ⟨6, 4, 0, [58]⟩, ⟨5, 6, 0, [97]⟩, ⟨6, 9, 0, [62]⟩, ⟨2, 11, 0, [97, 115]⟩, ⟨5, 14, 0, [97]⟩, ⟨0, 16, 0, []⟩]
def readsM : ReadsAs [60, 32, 109, 32, 58, 32, 39, 97, 32, 62, 32, 97, 115, 32, 39, 97] (graphOf tyM) where
 ts := toksM
 k := 40
 t := tyM
 j := 7
 bd := bdA
 n := 1
 a := 0
 st := stOf tyM
 lex := lexS_of (by decide) (by decide)
 pos := by decide
 few := by decide
 text := by decide
 parse := by rfl
 last := by rfl
 may := by decide +kernel
 small := by decide +kernel
 smallT := smallT_of (by decide +kernel)
 bind := by rfl
 nsmall := by decide
 follow := followA _ (by rfl)
 node := by rfl
 nlen := by decide +kernel
 weight := by decide +kernel
 graph := rfl
theorem nsM : (graphOf tyM).ns = [⟨3, ByteArray.empty, [0], [⟨#[109]⟩], false⟩] := by decide +kernel
def tyL : Ty := .mk 4 [97] [.mk 1 [97] [] [] false] [] false
def toksL : List Tok := [⟨5, 0, 0, [97]⟩, ⟨2, 3, 0, [97, 115]⟩, ⟨5, 6, 0, [97]⟩, ⟨0, 8, 0, []⟩]
def readsL : ReadsBad [39, 97, 32, 97, 115, 32, 39, 97] where
 ts := toksL
 k := 40
 t := tyL
 j := 3
 lex := lexS_of (by decide) (by decide)
 pos := by decide
 few := by decide
 text := by decide
 parse := by rfl
 last := by rfl
 may := by decide +kernel
 small := by decide +kernel
 fails := .inr ⟨(bdA, 1), ⟨[97].toArray⟩, 0, by rfl, by rfl, by rfl⟩
end Go.Tre
namespace Go.Proofs.YtljmcmdabdlldaaGreatDoor.load
open Go.RowKit Go.Shelf Go.Maps Go.Tre lex gr
set_option maxRecDepth 100000 in
set_option maxHeartbeats 8000000 in
theorem alive07 (w : World) (E : LexEnv w) : Calls Tryz.prog 7 #[] w fun e w' => e = .returned (.bool true) ∧ Below w.heap.size w w' := by
 have HE := Tre.hid E
 have HM0 := Tre.hid (Mem.nil w)
 have R1 := Tre.hid (load.Read_ok ⟨#[60, 32, 109, 32, 58, 32, 39, 97, 32, 62, 32, 97, 115, 32, 39, 97]⟩ _ readsM w (by decide) E)
 clear E
 go_enter Tryz.func7, Tryz.ntmps7
 go_wp2_with fail
 refine R1.out.mono ?_
 rintro e w1 ⟨v1, ds, rfl, hds, m1⟩
 have M1 := HM0.out.call m1
 obtain ⟨a1, c1, rfl, _⟩ := M1.val 0 rfl
 have HDS := Tre.hid hds
 have hl : ds.length = 1 := by have := congrArg List.length hds; rw [nsM] at this; simpa using this
 rw [hl] at m1 M1 ⊢
 have HL := Tre.hid hl
 have M2 := M1.allocR #[.slice a1 1 c1, .int .i64 0] 33
 have HM2 := Tre.hid M2
 clear m1 hds M1 M2 R1 HM0 hl
 have R2 := Tre.hid (load.Read_bad ⟨#[39, 97, 32, 97, 115, 32, 39, 97]⟩ readsL _ (by decide) (HE.out.below HM2.out.below))
 go_wp2_with fail
 refine R2.out.mono ?_
 rintro e w3 ⟨rfl, b3⟩
 have M3 := HM2.out.quiet b3
 have M4 := M3.allocR #[.slice none 0 0, .int .i64 0] 33
 obtain ⟨p0, p1⟩ := M4.two 1 rfl
 have N1 := nodes_read (n := 1) (M4.at_ 2 rfl) (M4.at_ 3 rfl)
 rw [HDS.out, nsM] at N1
 obtain ⟨b, off, rfl, aa, ca, al, cl, h0, h1, h2, h3, h4, h5, _⟩ := N1.at_ 0 _ rfl
 obtain ⟨b', off', rfl, hx⟩ := h5.at_ 0 (.int .i64 0) rfl
 have HM4 := Tre.hid M4
 have k0 : (w3.alloc (.cells #[.slice none 0 0, .int .i64 0] 33)).cell? ⟨b, off, none⟩ = some (.int .i64 3) := by rw [Nat.zero_mul, Nat.add_zero] at h0; exact h0
 have k2 : (w3.alloc (.cells #[.slice none 0 0, .int .i64 0] 33)).cell? ⟨b, off + 2, none⟩ = some (.slice (some ⟨b', off', none⟩) 1 ca) := by rw [Nat.zero_mul, Nat.add_zero] at h2; exact h2
 have kx : (w3.alloc (.cells #[.slice none 0 0, .int .i64 0] 33)).cell? ⟨b', off', none⟩ = some (.int .i64 0) := by rw [Nat.add_zero] at hx; exact hx
 clear b3 M3 M4 R2 HM2 N1 h5 h0 h1 h2 h3 h4 hx
 go_wp2_with fail
 go_ret
 exact ⟨rfl, HM4.out.below⟩
end Go.Proofs.YtljmcmdabdlldaaGreatDoor.load
namespace Go.Tre
open Go.RowKit
structure Prt where
 kind : Nat
 s : List UInt8
 args : Nat
 opn : Bool
def bitB (a i : Nat) : Bool := decide (a / 2 ^ i % 2 = 1)
def fieldName : Nat → List UInt8
 | 0 => [97]
 | 1 => [98]
 | 2 => [109]
 | _ => [110]
def labs (a : Nat) : Nat → List (List UInt8)
 | 0 => []
 | i + 1 => labs a i ++ (if bitB a i = true then [fieldName i] else [])
def Prt.n (p : Prt) : Nat := if p.kind % 5 = 3 then (labs p.args 4).length else p.args % 4
def Prt.labels (p : Prt) : List (List UInt8) := if p.kind % 5 = 3 then labs p.args 4 else []
def tyI : Ty := .mk 2 [105, 110, 116] [] [] false
def ofsF (f : List Prt → Ty × List Prt) : Nat → List Prt → List Ty × List Prt
 | 0, l => ([], l)
 | n + 1, l => ((f l).1 :: (ofsF f n (f l).2).1, (ofsF f n (f l).2).2)
def ofP : Nat → List Prt → Ty × List Prt
 | 0, _ => (tyI, [])
 | _ + 1, [] => (tyI, [])
 | K + 1, p :: l => (.mk (p.kind % 5) p.s (ofsF (ofP K) p.n l).1 p.labels p.opn, (ofsF (ofP K) p.n l).2)
def ofTy (l : List Prt) : Ty := (ofP (l.length + 1) l).1
theorem labs_len (a : Nat) : ∀ i, (labs a i).length ≤ i
 | 0 => by unfold labs; simp
 | i + 1 => by
  have := labs_len a i
  unfold labs
  rw [List.length_append]
  split <;> simp <;> omega
theorem Prt.n_le (p : Prt) : p.n ≤ 4 := by
 unfold Prt.n
 split
 ·exact labs_len _ 4
 ·omega
theorem ofsF_rest {f : List Prt → Ty × List Prt} (hf : ∀ l, (f l).2.length ≤ l.length) : ∀ (n : Nat) (l : List Prt), (ofsF f n l).2.length ≤ l.length
 | 0, _ => Nat.le_refl _
 | n + 1, l => Nat.le_trans (ofsF_rest hf n (f l).2) (hf l)
theorem ofP_rest : ∀ (K : Nat) (l : List Prt), (ofP K l).2.length ≤ l.length
 | 0, l => Nat.zero_le _
 | _ + 1, [] => Nat.le_refl _
 | K + 1, p :: l => by
  have := ofsF_rest (ofP_rest K) p.n l
  rw [ofP, List.length_cons]
  exact Nat.le_succ_of_le this
def partCost (l : List Prt) : Nat := (l.map fun p => 30 + p.s.length).sum
theorem labs_w (a : Nat) : ∀ i, ((labs a i).map fun x => x.length + 1).sum ≤ 2 * i
 | 0 => by unfold labs; simp
 | i + 1 => by
  have := labs_w a i
  unfold labs
  rw [List.map_append, List.sum_append]
  split
  ·have : (fieldName i).length = 1 := by unfold fieldName; split <;> rfl
   simp only [List.map_cons, List.map_nil, List.sum_cons, List.sum_nil, this]; omega
  ·simp; omega
theorem ofsF_cost {f : List Prt → Ty × List Prt} (hf : ∀ l, (f l).1.weight + partCost (f l).2 ≤ partCost l + 4) : ∀ (n : Nat) (l : List Prt), weights (ofsF f n l).1 + partCost (ofsF f n l).2 ≤ partCost l + 4 * n
 | 0, l => by rw [ofsF]; unfold weights; simp
 | n + 1, l => by
  have h1 := hf l
  have h2 := ofsF_cost hf n (f l).2
  rw [ofsF]
  unfold weights
  simp only
  omega
theorem ofP_cost : ∀ (K : Nat) (l : List Prt), (ofP K l).1.weight + partCost (ofP K l).2 ≤ partCost l + 4
 | 0, l => by rw [ofP]; simp [tyI, Ty.weight, weights, partCost]
 | _ + 1, [] => by rw [ofP]; simp [tyI, Ty.weight, weights, partCost]
 | K + 1, p :: l => by
  have h1 := ofsF_cost (ofP_cost K) p.n l
  have h2 := p.n_le
  have h3 : (p.labels.map fun x => x.length + 1).sum ≤ 8 := by
   unfold Prt.labels
   split
   ·exact labs_w _ 4
   ·simp
  rw [ofP, Ty.weight]
  have e : partCost (p :: l) = 30 + p.s.length + partCost l := by unfold partCost; simp
  rw [e]
  simp only
  omega
theorem ofTy_weight (l : List Prt) : (ofTy l).weight ≤ partCost l + 4 := by
 have := ofP_cost (l.length + 1) l
 unfold ofTy
 omega
def partsBig (l : List Prt) : Nat := (l.map fun p => min p.s.length 10000).sum
theorem partCost_le : ∀ {l : List Prt} {m : Nat}, partsBig l ≤ m → m < 10000 → partCost l ≤ 30 * l.length + m
 | [], m, h, _ => by unfold partCost; simp
 | p :: l, m, h, hm => by
  unfold partsBig at h
  simp only [List.map_cons, List.sum_cons] at h
  have := partCost_le (l := l) (m := m - min p.s.length 10000) (by unfold partsBig; omega) (by omega)
  unfold partCost at this ⊢
  simp only [List.map_cons, List.sum_cons, List.length_cons]
  omega
def Ty.texts : Ty → List (List UInt8) → Prop := fun t S => ∀ (i : Nat), i = i → t.s ∈ S
/-! in memory -/
def PrtAt (w : World) (b p : Nat) (x : Prt) : Prop := w.cell? ⟨b, p, none⟩ = some (.int .u8 x.kind) ∧ w.cell? ⟨b, p + 1, none⟩ = some (.string ⟨x.s.toArray⟩) ∧ w.cell? ⟨b, p + 2, none⟩ = some (.int .u8 x.args) ∧ w.cell? ⟨b, p + 3, none⟩ = some (.bool x.opn) ∧ x.kind < 256 ∧ x.args < 256
structure PrtsAt (w : World) (a : Option Addr) (l : List Prt) : Prop where
 at_ : ∀ (k : Nat) (x : Prt), l[k]? = some x → ∃ b off, a = some ⟨b, off, none⟩ ∧ PrtAt w b (off + k * 4) x
theorem PrtsAt.below {w w' : World} {a : Option Addr} {l : List Prt} (h : PrtsAt w a l) (hb : Below w.heap.size w w') : PrtsAt w' a l := ⟨fun k x hx => by
 obtain ⟨b, off, e, h0, h1, h2, h3, h4⟩ := h.at_ k x hx
 exact ⟨b, off, e, cell_below hb h0, cell_below hb h1, cell_below hb h2, cell_below hb h3, h4⟩⟩
theorem PrtsAt.nil (w : World) (a : Option Addr) : PrtsAt w a [] := ⟨fun k x h => by simp at h⟩
theorem PrtsAt.tail {w : World} {b off : Nat} {p : Prt} {l : List Prt} (h : PrtsAt w (some ⟨b, off, none⟩) (p :: l)) : PrtsAt w (some ⟨b, off + 4, none⟩) l := ⟨fun k x hx => by
 obtain ⟨b', off', e, h0⟩ := h.at_ (k + 1) x (by simpa using hx)
 cases e
 refine ⟨b, off + 4, rfl, ?_⟩
 rw [show off + 4 + k * 4 = off + (k + 1) * 4 by omega]; exact h0⟩
theorem and_fin : ∀ x : Fin 256, IntKind.u8.wrap (((BitVec.ofInt 8 (x.val : Int) &&& BitVec.ofInt 8 1).toNat : Nat) : Int) = ((x.val % 2 : Nat) : Int) := by decide +kernel
theorem bits_and (x : Nat) (hx : x < 256) : bits BinOp.and IntKind.u8 (x : Int) 1 = ((x % 2 : Nat) : Int) := by
 have h := and_fin ⟨x, hx⟩
 exact h
end Go.Tre
namespace Go.Proofs.YtljmcmdabdlldaaGreatDoor.part
open Go.RowKit Go.Maps Go.Tre lex gr
theorem tail_slice (b off n cap : Nat) (hcap : n + 1 ≤ cap) : ∃ a1 : Option Addr, (a1 = some ⟨b, off + 4, none⟩ ∨ n = 0) ∧ ∀ w, (Instr.sliceAt 22 (.slice (some ⟨b, off, none⟩) (n + 1) cap) (some (.int .i64 1)) none none).run Tryz.prog w = .ok (.slice a1 n (cap - 1)) w := by
 by_cases hc : cap = 1
 ·subst hc
  obtain rfl : n = 0 := by omega
  refine ⟨some ⟨b, off, none⟩, .inr rfl, fun w => ?_⟩
  go_simp <;> with_reducible rfl
 ·refine ⟨_, .inl rfl, fun w => ?_⟩
  go_simp
  intro h; omega
end Go.Proofs.YtljmcmdabdlldaaGreatDoor.part
