/- typ.put at arrows and products. typ.object, typ.put at every type that may be, typ.Put. -/
import Derived.Test.YtbafalfmgibnfaaGreatDoorB21
set_option linter.unusedVariables false
namespace Go.Proofs.YtbafalfmgibnfaaGreatDoor.typ
open Go.RowKit Go.Maps Go.Tre gr
set_option maxRecDepth 100000 in
set_option maxHeartbeats 4000000 in
theorem put_op1 (a u : Ty) (hFa : Fine a) (hFu : Fine u) (iha : Pu a) (ihu : Pu u) (w0 w : World) (b : Nat) (out : List UInt8) (rs : List Res) (v : Value) (lev : Nat) (hT : TyRd w0 (Ty.mk 2 [45, 62] [a, u] [] false) v) (hM : BldM w0 w b out rs) (hlen : out.length + 20 * (Ty.mk 2 [45, 62] [a, u] [] false).weight ≤ 1099511627776) (hlev : lev ≤ 3) (hc : ¬ 1 < lev) :
  Calls Tryz.prog 16 #[.pointer (some ⟨b, 0, none⟩), v, .int .i64 lev] w fun e w' => e = .returned (.tuple #[]) ∧ BldM w0 w' b (out ++ spell (spT (Ty.mk 2 [45, 62] [a, u] [] false) lev false)) rs := by
 have HTR := Tre.hid hT
 cases hT with
 | mk V hlab hcell hargs =>
 rename_i aa ca al cl
 have hB := hM.allocR #[.int .i64 2, .string ⟨([45, 62]).toArray⟩, .slice aa 2 ca, .slice al 0 cl, .bool false] 28
 have z0 := hB.rest.cell 0 rfl 0 rfl
 have z1 := hB.rest.cell 0 rfl 1 rfl
 have z2 := hB.rest.cell 0 rfl 2 rfl
 have z3 := hB.rest.cell 0 rfl 3 rfl
 have z4 := hB.rest.cell 0 rfl 4 rfl
 have HT0 := Tre.hid (hargs 0 a rfl)
 obtain ⟨a0, c0, l0, d0, ev0⟩ := (hargs 0 a rfl).agg
 obtain ⟨ab0, ao0, eq0, _, hk0⟩ := hcell 0 (by simp)
 rw [ev0] at HT0
 have hv0 := Value.agg.inj ev0
 rw [hv0] at hk0
 have HK0 : Hid (∀ W, Below w0.heap.size w0 W → W.cell? ⟨ab0, ao0, none⟩ = some (.int .i64 (a).kind) ∧ W.cell? ⟨ab0, ao0 + 1, none⟩ = some (.string ⟨(a).s.toArray⟩) ∧ W.cell? ⟨ab0, ao0 + 2, none⟩ = some (.slice a0 (a).args.length c0) ∧ W.cell? ⟨ab0, ao0 + 3, none⟩ = some (.slice l0 (a).labels.length d0) ∧ W.cell? ⟨ab0, ao0 + 4, none⟩ = some (.bool (a).opn)) := fun W hW => ⟨cell_below hW (hk0 0 _ rfl), cell_below hW (hk0 1 _ rfl), cell_below hW (hk0 2 _ rfl), cell_below hW (hk0 3 _ rfl), cell_below hW (hk0 4 _ rfl)⟩
 have HT1 := Tre.hid (hargs 1 u rfl)
 obtain ⟨a1, c1, l1, d1, ev1⟩ := (hargs 1 u rfl).agg
 obtain ⟨ab1, ao1, eq1, _, hk1⟩ := hcell 1 (by simp)
 rw [ev1] at HT1
 have hv1 := Value.agg.inj ev1
 rw [hv1] at hk1
 have HK1 : Hid (∀ W, Below w0.heap.size w0 W → W.cell? ⟨ab1, ao1 + 5, none⟩ = some (.int .i64 (u).kind) ∧ W.cell? ⟨ab1, ao1 + 6, none⟩ = some (.string ⟨(u).s.toArray⟩) ∧ W.cell? ⟨ab1, ao1 + 7, none⟩ = some (.slice a1 (u).args.length c1) ∧ W.cell? ⟨ab1, ao1 + 8, none⟩ = some (.slice l1 (u).labels.length d1) ∧ W.cell? ⟨ab1, ao1 + 9, none⟩ = some (.bool (u).opn)) := fun W hW => ⟨cell_below hW (hk1 0 _ rfl), cell_below hW (hk1 1 _ rfl), cell_below hW (hk1 2 _ rfl), cell_below hW (hk1 3 _ rfl), cell_below hW (hk1 4 _ rfl)⟩
 subst eq0
 cases eq1
 have hl1 : ¬ ((1 : Int) < (lev : Int)) := by omega
 have hl2 : decide ((1 : Int) < (lev : Int)) = false := by simpa using hl1
 have hwt : out.length + 20 * a.weight + 20 * u.weight + 20 ≤ 1099511627776 := by simp only [weight_mk, weights_cons, weights_nil, List.map_nil, List.sum_nil, List.length_cons, List.length_nil] at hlen; omega
 have HFA := Tre.hid (spT_len hFa 2 false)
 have HFU := Tre.hid (spT_len hFu 1 false)
 have HGU := Tre.hid ((piece_of hFu 1).gap [])
 have HO : Hid (out ++ spell (spT (.mk 2 [45, 62] [a, u] [] false) lev false) = ((out ++ spell (spT a 2 false)) ++ (⟨#[32, 45, 62, 32]⟩ : ByteArray).data.toList) ++ spell (spT u 1 false)) := by
  show _ = _
  have hg := HGU.out
  rw [List.append_nil, List.append_nil] at hg
  rw [spT]
  unfold spWrap
  rw [if_neg (show ¬ ownLev 2 [45, 62] < lev from by show ¬ 1 < lev; omega), spTs, spTs, spTs]
  simp [spOwn, ownLev, spell, spell_app, Sp.text, Sp.body, hg]
 have HIA := Tre.hid iha
 have HIU := Tre.hid ihu
 have H1 := Tre.hid hB
 obtain ⟨y0, y1, y2, y3, y4⟩ := HK0.out _ hB.below
 clear hM hB hlen HTR hlab hcell hargs ev0 hv0 hk0 ev1 hv1 hk1 iha ihu HGU
 go_enter_defers Tryz.func16, Tryz.ntmps16
 go_wp2_with fail
 refine (HIA.out w0 _ b _ _ _ 2 HT0.out H1.out (by (try simp only [List.length_append, List.length_cons, List.length_nil]); omega) (by omega)).mono ?_
 rintro e w2 ⟨rfl, h2⟩
 clear y0 y1 y2 y3 y4 z0 z1 z2 z3 z4
 have z0 := h2.rest.cell 0 rfl 0 rfl
 have z1 := h2.rest.cell 0 rfl 1 rfl
 have z2 := h2.rest.cell 0 rfl 2 rfl
 have z3 := h2.rest.cell 0 rfl 3 rfl
 have z4 := h2.rest.cell 0 rfl 4 rfl
 have W2 := Tre.hid (wStr ⟨#[32, 45, 62, 32]⟩ h2 (by have := HFA.out; simp only [List.length_append]; show _ + 4 ≤ _; omega))
 clear h2 H1 HIA
 go_wp2_with fail
 refine W2.out.mono ?_
 rintro e w3 ⟨rfl, h3⟩
 clear z0 z1 z2 z3 z4
 have z0 := h3.rest.cell 0 rfl 0 rfl
 have z1 := h3.rest.cell 0 rfl 1 rfl
 have z2 := h3.rest.cell 0 rfl 2 rfl
 have z3 := h3.rest.cell 0 rfl 3 rfl
 have z4 := h3.rest.cell 0 rfl 4 rfl
 obtain ⟨y0, y1, y2, y3, y4⟩ := HK1.out _ h3.below
 have H3 := Tre.hid h3
 have hsz : (⟨#[32, 45, 62, 32]⟩ : ByteArray).data.toList.length = 4 := rfl
 clear h3 W2
 go_wp2_with fail
 refine (HIU.out w0 _ b _ _ _ 1 HT1.out H3.out (by have := HFA.out; simp only [List.length_append, List.length_cons, List.length_nil] at *; omega) (by omega)).mono ?_
 rintro e w4 ⟨rfl, h4⟩
 have HZ := Tre.hid h4
 have hfa := HFA.out
 have hfu := HFU.out
 clear h4 H3 HIU y0 y1 y2 y3 y4 z0 z1 z2 z3 z4
 go_wp2_with fail
 exact ⟨_, results_none rfl _ _ _, rfl, by rw [HO.out]; exact HZ.out.subs (List.sublist_cons_self ..)⟩
set_option maxRecDepth 100000 in
set_option maxHeartbeats 4000000 in
theorem put_op1B (a u : Ty) (hFa : Fine a) (hFu : Fine u) (iha : Pu a) (ihu : Pu u) (w0 w : World) (b : Nat) (out : List UInt8) (rs : List Res) (v : Value) (lev : Nat) (hT : TyRd w0 (Ty.mk 2 [45, 62] [a, u] [] false) v) (hM : BldM w0 w b out rs) (hlen : out.length + 20 * (Ty.mk 2 [45, 62] [a, u] [] false).weight ≤ 1099511627776) (hlev : lev ≤ 3) (hc : 1 < lev) :
  Calls Tryz.prog 16 #[.pointer (some ⟨b, 0, none⟩), v, .int .i64 lev] w fun e w' => e = .returned (.tuple #[]) ∧ BldM w0 w' b (out ++ spell (spT (Ty.mk 2 [45, 62] [a, u] [] false) lev false)) rs := by
 have HTR := Tre.hid hT
 cases hT with
 | mk V hlab hcell hargs =>
 rename_i aa ca al cl
 have hB := hM.allocR #[.int .i64 2, .string ⟨([45, 62]).toArray⟩, .slice aa 2 ca, .slice al 0 cl, .bool false] 28
 have z0 := hB.rest.cell 0 rfl 0 rfl
 have z1 := hB.rest.cell 0 rfl 1 rfl
 have z2 := hB.rest.cell 0 rfl 2 rfl
 have z3 := hB.rest.cell 0 rfl 3 rfl
 have z4 := hB.rest.cell 0 rfl 4 rfl
 have HT0 := Tre.hid (hargs 0 a rfl)
 obtain ⟨a0, c0, l0, d0, ev0⟩ := (hargs 0 a rfl).agg
 obtain ⟨ab0, ao0, eq0, _, hk0⟩ := hcell 0 (by simp)
 rw [ev0] at HT0
 have hv0 := Value.agg.inj ev0
 rw [hv0] at hk0
 have HK0 : Hid (∀ W, Below w0.heap.size w0 W → W.cell? ⟨ab0, ao0, none⟩ = some (.int .i64 (a).kind) ∧ W.cell? ⟨ab0, ao0 + 1, none⟩ = some (.string ⟨(a).s.toArray⟩) ∧ W.cell? ⟨ab0, ao0 + 2, none⟩ = some (.slice a0 (a).args.length c0) ∧ W.cell? ⟨ab0, ao0 + 3, none⟩ = some (.slice l0 (a).labels.length d0) ∧ W.cell? ⟨ab0, ao0 + 4, none⟩ = some (.bool (a).opn)) := fun W hW => ⟨cell_below hW (hk0 0 _ rfl), cell_below hW (hk0 1 _ rfl), cell_below hW (hk0 2 _ rfl), cell_below hW (hk0 3 _ rfl), cell_below hW (hk0 4 _ rfl)⟩
 have HT1 := Tre.hid (hargs 1 u rfl)
 obtain ⟨a1, c1, l1, d1, ev1⟩ := (hargs 1 u rfl).agg
 obtain ⟨ab1, ao1, eq1, _, hk1⟩ := hcell 1 (by simp)
 rw [ev1] at HT1
 have hv1 := Value.agg.inj ev1
 rw [hv1] at hk1
 have HK1 : Hid (∀ W, Below w0.heap.size w0 W → W.cell? ⟨ab1, ao1 + 5, none⟩ = some (.int .i64 (u).kind) ∧ W.cell? ⟨ab1, ao1 + 6, none⟩ = some (.string ⟨(u).s.toArray⟩) ∧ W.cell? ⟨ab1, ao1 + 7, none⟩ = some (.slice a1 (u).args.length c1) ∧ W.cell? ⟨ab1, ao1 + 8, none⟩ = some (.slice l1 (u).labels.length d1) ∧ W.cell? ⟨ab1, ao1 + 9, none⟩ = some (.bool (u).opn)) := fun W hW => ⟨cell_below hW (hk1 0 _ rfl), cell_below hW (hk1 1 _ rfl), cell_below hW (hk1 2 _ rfl), cell_below hW (hk1 3 _ rfl), cell_below hW (hk1 4 _ rfl)⟩
 subst eq0
 cases eq1
 have hl1 : (1 : Int) < (lev : Int) := by omega
 have hl2 : decide ((1 : Int) < (lev : Int)) = true := by simpa using hl1
 have hwt : out.length + 20 * a.weight + 20 * u.weight + 20 ≤ 1099511627776 := by simp only [weight_mk, weights_cons, weights_nil, List.map_nil, List.sum_nil, List.length_cons, List.length_nil] at hlen; omega
 have HFA := Tre.hid (spT_len hFa 2 false)
 have HFU := Tre.hid (spT_len hFu 1 false)
 have HGU := Tre.hid ((piece_of hFu 1).gap [])
 have HO : Hid (out ++ spell (spT (.mk 2 [45, 62] [a, u] [] false) lev false) = (((out ++ [40]) ++ spell (spT a 2 false)) ++ (⟨#[32, 45, 62, 32]⟩ : ByteArray).data.toList) ++ spell (spT u 1 false) ++ [41]) := by
  show _ = _
  have hg := HGU.out
  rw [List.append_nil, List.append_nil] at hg
  rw [spT]
  unfold spWrap
  rw [if_pos (show ownLev 2 [45, 62] < lev from by show 1 < lev; omega), spTs, spTs, spTs]
  simp [spOwn, ownLev, spell, spell_app, Sp.text, Sp.body, hg]
 have HIA := Tre.hid iha
 have HIU := Tre.hid ihu
 have W0 := Tre.hid (wByte 40 hB (by omega))
 clear hM hB hlen HTR hlab hcell hargs ev0 hv0 hk0 ev1 hv1 hk1 iha ihu HGU
 go_enter_defers Tryz.func16, Tryz.ntmps16
 go_wp2_with fail
 refine W0.out.mono ?_
 rintro e w1 ⟨rfl, h1⟩
 clear z0 z1 z2 z3 z4
 have z0 := h1.rest.cell 0 rfl 0 rfl
 have z1 := h1.rest.cell 0 rfl 1 rfl
 have z2 := h1.rest.cell 0 rfl 2 rfl
 have z3 := h1.rest.cell 0 rfl 3 rfl
 have z4 := h1.rest.cell 0 rfl 4 rfl
 obtain ⟨y0, y1, y2, y3, y4⟩ := HK0.out _ h1.below
 have H1 := Tre.hid h1
 clear h1 W0
 go_wp2_with fail
 refine (HIA.out w0 _ b _ _ _ 2 HT0.out H1.out (by (try simp only [List.length_append, List.length_cons, List.length_nil]); omega) (by omega)).mono ?_
 rintro e w2 ⟨rfl, h2⟩
 clear y0 y1 y2 y3 y4 z0 z1 z2 z3 z4
 have z0 := h2.rest.cell 0 rfl 0 rfl
 have z1 := h2.rest.cell 0 rfl 1 rfl
 have z2 := h2.rest.cell 0 rfl 2 rfl
 have z3 := h2.rest.cell 0 rfl 3 rfl
 have z4 := h2.rest.cell 0 rfl 4 rfl
 have W2 := Tre.hid (wStr ⟨#[32, 45, 62, 32]⟩ h2 (by have := HFA.out; simp only [List.length_append, List.length_cons, List.length_nil]; show _ + 4 ≤ _; omega))
 clear h2 H1 HIA
 go_wp2_with fail
 refine W2.out.mono ?_
 rintro e w3 ⟨rfl, h3⟩
 clear z0 z1 z2 z3 z4
 have z0 := h3.rest.cell 0 rfl 0 rfl
 have z1 := h3.rest.cell 0 rfl 1 rfl
 have z2 := h3.rest.cell 0 rfl 2 rfl
 have z3 := h3.rest.cell 0 rfl 3 rfl
 have z4 := h3.rest.cell 0 rfl 4 rfl
 obtain ⟨y0, y1, y2, y3, y4⟩ := HK1.out _ h3.below
 have H3 := Tre.hid h3
 have hsz : (⟨#[32, 45, 62, 32]⟩ : ByteArray).data.toList.length = 4 := rfl
 clear h3 W2
 go_wp2_with fail
 refine (HIU.out w0 _ b _ _ _ 1 HT1.out H3.out (by have := HFA.out; simp only [List.length_append, List.length_cons, List.length_nil] at *; omega) (by omega)).mono ?_
 rintro e w4 ⟨rfl, h4⟩
 have HZ := Tre.hid h4
 have hfa := HFA.out
 have hfu := HFU.out
 clear h4 H3 HIU y0 y1 y2 y3 y4 z0 z1 z2 z3 z4
 go_wp2_with fail
 refine leaves_cons (f := 28) (args := #[.pointer (some ⟨b, 0, none⟩), .int .u8 ((41 : UInt8).toNat : Nat)]) (by simp) (by simp [go_sem]) ?_
 refine (wByteD 41 _ HZ.out (by have hs4 : (⟨#[32, 45, 62, 32]⟩ : ByteArray).data.toList.length = 4 := rfl; rw [List.length_append, List.length_append, hs4]; simp only [List.length_append, List.length_cons, List.length_nil]; omega)).mono ?_
 rintro e u' w'' ⟨rfl, rfl, h9⟩
 exact ⟨_, results_none rfl _ _ _, rfl, by rw [HO.out]; exact h9.subs (List.sublist_cons_self ..)⟩
set_option maxRecDepth 100000 in
set_option maxHeartbeats 4000000 in
theorem put_op2 (a u : Ty) (hFa : Fine a) (hFu : Fine u) (iha : Pu a) (ihu : Pu u) (w0 w : World) (b : Nat) (out : List UInt8) (rs : List Res) (v : Value) (lev : Nat) (hT : TyRd w0 (Ty.mk 2 [42] [a, u] [] false) v) (hM : BldM w0 w b out rs) (hlen : out.length + 20 * (Ty.mk 2 [42] [a, u] [] false).weight ≤ 1099511627776) (hlev : lev ≤ 3) (hc : ¬ 2 < lev) :
  Calls Tryz.prog 16 #[.pointer (some ⟨b, 0, none⟩), v, .int .i64 lev] w fun e w' => e = .returned (.tuple #[]) ∧ BldM w0 w' b (out ++ spell (spT (Ty.mk 2 [42] [a, u] [] false) lev false)) rs := by
 have HTR := Tre.hid hT
 cases hT with
 | mk V hlab hcell hargs =>
 rename_i aa ca al cl
 have hB := hM.allocR #[.int .i64 2, .string ⟨([42]).toArray⟩, .slice aa 2 ca, .slice al 0 cl, .bool false] 28
 have z0 := hB.rest.cell 0 rfl 0 rfl
 have z1 := hB.rest.cell 0 rfl 1 rfl
 have z2 := hB.rest.cell 0 rfl 2 rfl
 have z3 := hB.rest.cell 0 rfl 3 rfl
 have z4 := hB.rest.cell 0 rfl 4 rfl
 have HT0 := Tre.hid (hargs 0 a rfl)
 obtain ⟨a0, c0, l0, d0, ev0⟩ := (hargs 0 a rfl).agg
 obtain ⟨ab0, ao0, eq0, _, hk0⟩ := hcell 0 (by simp)
 rw [ev0] at HT0
 have hv0 := Value.agg.inj ev0
 rw [hv0] at hk0
 have HK0 : Hid (∀ W, Below w0.heap.size w0 W → W.cell? ⟨ab0, ao0, none⟩ = some (.int .i64 (a).kind) ∧ W.cell? ⟨ab0, ao0 + 1, none⟩ = some (.string ⟨(a).s.toArray⟩) ∧ W.cell? ⟨ab0, ao0 + 2, none⟩ = some (.slice a0 (a).args.length c0) ∧ W.cell? ⟨ab0, ao0 + 3, none⟩ = some (.slice l0 (a).labels.length d0) ∧ W.cell? ⟨ab0, ao0 + 4, none⟩ = some (.bool (a).opn)) := fun W hW => ⟨cell_below hW (hk0 0 _ rfl), cell_below hW (hk0 1 _ rfl), cell_below hW (hk0 2 _ rfl), cell_below hW (hk0 3 _ rfl), cell_below hW (hk0 4 _ rfl)⟩
 have HT1 := Tre.hid (hargs 1 u rfl)
 obtain ⟨a1, c1, l1, d1, ev1⟩ := (hargs 1 u rfl).agg
 obtain ⟨ab1, ao1, eq1, _, hk1⟩ := hcell 1 (by simp)
 rw [ev1] at HT1
 have hv1 := Value.agg.inj ev1
 rw [hv1] at hk1
 have HK1 : Hid (∀ W, Below w0.heap.size w0 W → W.cell? ⟨ab1, ao1 + 5, none⟩ = some (.int .i64 (u).kind) ∧ W.cell? ⟨ab1, ao1 + 6, none⟩ = some (.string ⟨(u).s.toArray⟩) ∧ W.cell? ⟨ab1, ao1 + 7, none⟩ = some (.slice a1 (u).args.length c1) ∧ W.cell? ⟨ab1, ao1 + 8, none⟩ = some (.slice l1 (u).labels.length d1) ∧ W.cell? ⟨ab1, ao1 + 9, none⟩ = some (.bool (u).opn)) := fun W hW => ⟨cell_below hW (hk1 0 _ rfl), cell_below hW (hk1 1 _ rfl), cell_below hW (hk1 2 _ rfl), cell_below hW (hk1 3 _ rfl), cell_below hW (hk1 4 _ rfl)⟩
 subst eq0
 cases eq1
 have hl1 : ¬ ((2 : Int) < (lev : Int)) := by omega
 have hl2 : decide ((2 : Int) < (lev : Int)) = false := by simpa using hl1
 have hwt : out.length + 20 * a.weight + 20 * u.weight + 20 ≤ 1099511627776 := by simp only [weight_mk, weights_cons, weights_nil, List.map_nil, List.sum_nil, List.length_cons, List.length_nil] at hlen; omega
 have HFA := Tre.hid (spT_len hFa 3 false)
 have HFU := Tre.hid (spT_len hFu 2 false)
 have HGU := Tre.hid ((piece_of hFu 2).gap [])
 have HO : Hid (out ++ spell (spT (.mk 2 [42] [a, u] [] false) lev false) = ((out ++ spell (spT a 3 false)) ++ (⟨#[32, 42, 32]⟩ : ByteArray).data.toList) ++ spell (spT u 2 false)) := by
  show _ = _
  have hg := HGU.out
  rw [List.append_nil, List.append_nil] at hg
  rw [spT]
  unfold spWrap
  rw [if_neg (show ¬ ownLev 2 [42] < lev from by show ¬ 2 < lev; omega), spTs, spTs, spTs]
  simp [spOwn, ownLev, spell, spell_app, Sp.text, Sp.body, hg]
 have HIA := Tre.hid iha
 have HIU := Tre.hid ihu
 have H1 := Tre.hid hB
 obtain ⟨y0, y1, y2, y3, y4⟩ := HK0.out _ hB.below
 clear hM hB hlen HTR hlab hcell hargs ev0 hv0 hk0 ev1 hv1 hk1 iha ihu HGU
 go_enter_defers Tryz.func16, Tryz.ntmps16
 go_wp2_with fail
 refine (HIA.out w0 _ b _ _ _ 3 HT0.out H1.out (by (try simp only [List.length_append, List.length_cons, List.length_nil]); omega) (by omega)).mono ?_
 rintro e w2 ⟨rfl, h2⟩
 clear y0 y1 y2 y3 y4 z0 z1 z2 z3 z4
 have z0 := h2.rest.cell 0 rfl 0 rfl
 have z1 := h2.rest.cell 0 rfl 1 rfl
 have z2 := h2.rest.cell 0 rfl 2 rfl
 have z3 := h2.rest.cell 0 rfl 3 rfl
 have z4 := h2.rest.cell 0 rfl 4 rfl
 have W2 := Tre.hid (wStr ⟨#[32, 42, 32]⟩ h2 (by have := HFA.out; simp only [List.length_append]; show _ + 3 ≤ _; omega))
 clear h2 H1 HIA
 go_wp2_with fail
 refine W2.out.mono ?_
 rintro e w3 ⟨rfl, h3⟩
 clear z0 z1 z2 z3 z4
 have z0 := h3.rest.cell 0 rfl 0 rfl
 have z1 := h3.rest.cell 0 rfl 1 rfl
 have z2 := h3.rest.cell 0 rfl 2 rfl
 have z3 := h3.rest.cell 0 rfl 3 rfl
 have z4 := h3.rest.cell 0 rfl 4 rfl
 obtain ⟨y0, y1, y2, y3, y4⟩ := HK1.out _ h3.below
 have H3 := Tre.hid h3
 have hsz : (⟨#[32, 42, 32]⟩ : ByteArray).data.toList.length = 3 := rfl
 clear h3 W2
 go_wp2_with fail
 refine (HIU.out w0 _ b _ _ _ 2 HT1.out H3.out (by have := HFA.out; simp only [List.length_append, List.length_cons, List.length_nil] at *; omega) (by omega)).mono ?_
 rintro e w4 ⟨rfl, h4⟩
 have HZ := Tre.hid h4
 have hfa := HFA.out
 have hfu := HFU.out
 clear h4 H3 HIU y0 y1 y2 y3 y4 z0 z1 z2 z3 z4
 go_wp2_with fail
 exact ⟨_, results_none rfl _ _ _, rfl, by rw [HO.out]; exact HZ.out.subs (List.sublist_cons_self ..)⟩
set_option maxRecDepth 100000 in
set_option maxHeartbeats 4000000 in
theorem put_op2B (a u : Ty) (hFa : Fine a) (hFu : Fine u) (iha : Pu a) (ihu : Pu u) (w0 w : World) (b : Nat) (out : List UInt8) (rs : List Res) (v : Value) (lev : Nat) (hT : TyRd w0 (Ty.mk 2 [42] [a, u] [] false) v) (hM : BldM w0 w b out rs) (hlen : out.length + 20 * (Ty.mk 2 [42] [a, u] [] false).weight ≤ 1099511627776) (hlev : lev ≤ 3) (hc : 2 < lev) :
  Calls Tryz.prog 16 #[.pointer (some ⟨b, 0, none⟩), v, .int .i64 lev] w fun e w' => e = .returned (.tuple #[]) ∧ BldM w0 w' b (out ++ spell (spT (Ty.mk 2 [42] [a, u] [] false) lev false)) rs := by
 have HTR := Tre.hid hT
 cases hT with
 | mk V hlab hcell hargs =>
 rename_i aa ca al cl
 have hB := hM.allocR #[.int .i64 2, .string ⟨([42]).toArray⟩, .slice aa 2 ca, .slice al 0 cl, .bool false] 28
 have z0 := hB.rest.cell 0 rfl 0 rfl
 have z1 := hB.rest.cell 0 rfl 1 rfl
 have z2 := hB.rest.cell 0 rfl 2 rfl
 have z3 := hB.rest.cell 0 rfl 3 rfl
 have z4 := hB.rest.cell 0 rfl 4 rfl
 have HT0 := Tre.hid (hargs 0 a rfl)
 obtain ⟨a0, c0, l0, d0, ev0⟩ := (hargs 0 a rfl).agg
 obtain ⟨ab0, ao0, eq0, _, hk0⟩ := hcell 0 (by simp)
 rw [ev0] at HT0
 have hv0 := Value.agg.inj ev0
 rw [hv0] at hk0
 have HK0 : Hid (∀ W, Below w0.heap.size w0 W → W.cell? ⟨ab0, ao0, none⟩ = some (.int .i64 (a).kind) ∧ W.cell? ⟨ab0, ao0 + 1, none⟩ = some (.string ⟨(a).s.toArray⟩) ∧ W.cell? ⟨ab0, ao0 + 2, none⟩ = some (.slice a0 (a).args.length c0) ∧ W.cell? ⟨ab0, ao0 + 3, none⟩ = some (.slice l0 (a).labels.length d0) ∧ W.cell? ⟨ab0, ao0 + 4, none⟩ = some (.bool (a).opn)) := fun W hW => ⟨cell_below hW (hk0 0 _ rfl), cell_below hW (hk0 1 _ rfl), cell_below hW (hk0 2 _ rfl), cell_below hW (hk0 3 _ rfl), cell_below hW (hk0 4 _ rfl)⟩
 have HT1 := Tre.hid (hargs 1 u rfl)
 obtain ⟨a1, c1, l1, d1, ev1⟩ := (hargs 1 u rfl).agg
 obtain ⟨ab1, ao1, eq1, _, hk1⟩ := hcell 1 (by simp)
 rw [ev1] at HT1
 have hv1 := Value.agg.inj ev1
 rw [hv1] at hk1
 have HK1 : Hid (∀ W, Below w0.heap.size w0 W → W.cell? ⟨ab1, ao1 + 5, none⟩ = some (.int .i64 (u).kind) ∧ W.cell? ⟨ab1, ao1 + 6, none⟩ = some (.string ⟨(u).s.toArray⟩) ∧ W.cell? ⟨ab1, ao1 + 7, none⟩ = some (.slice a1 (u).args.length c1) ∧ W.cell? ⟨ab1, ao1 + 8, none⟩ = some (.slice l1 (u).labels.length d1) ∧ W.cell? ⟨ab1, ao1 + 9, none⟩ = some (.bool (u).opn)) := fun W hW => ⟨cell_below hW (hk1 0 _ rfl), cell_below hW (hk1 1 _ rfl), cell_below hW (hk1 2 _ rfl), cell_below hW (hk1 3 _ rfl), cell_below hW (hk1 4 _ rfl)⟩
 subst eq0
 cases eq1
 have hl1 : (2 : Int) < (lev : Int) := by omega
 have hl2 : decide ((2 : Int) < (lev : Int)) = true := by simpa using hl1
 have hwt : out.length + 20 * a.weight + 20 * u.weight + 20 ≤ 1099511627776 := by simp only [weight_mk, weights_cons, weights_nil, List.map_nil, List.sum_nil, List.length_cons, List.length_nil] at hlen; omega
 have HFA := Tre.hid (spT_len hFa 3 false)
 have HFU := Tre.hid (spT_len hFu 2 false)
 have HGU := Tre.hid ((piece_of hFu 2).gap [])
 have HO : Hid (out ++ spell (spT (.mk 2 [42] [a, u] [] false) lev false) = (((out ++ [40]) ++ spell (spT a 3 false)) ++ (⟨#[32, 42, 32]⟩ : ByteArray).data.toList) ++ spell (spT u 2 false) ++ [41]) := by
  show _ = _
  have hg := HGU.out
  rw [List.append_nil, List.append_nil] at hg
  rw [spT]
  unfold spWrap
  rw [if_pos (show ownLev 2 [42] < lev from by show 2 < lev; omega), spTs, spTs, spTs]
  simp [spOwn, ownLev, spell, spell_app, Sp.text, Sp.body, hg]
 have HIA := Tre.hid iha
 have HIU := Tre.hid ihu
 have W0 := Tre.hid (wByte 40 hB (by omega))
 clear hM hB hlen HTR hlab hcell hargs ev0 hv0 hk0 ev1 hv1 hk1 iha ihu HGU
 go_enter_defers Tryz.func16, Tryz.ntmps16
 go_wp2_with fail
 refine W0.out.mono ?_
 rintro e w1 ⟨rfl, h1⟩
 clear z0 z1 z2 z3 z4
 have z0 := h1.rest.cell 0 rfl 0 rfl
 have z1 := h1.rest.cell 0 rfl 1 rfl
 have z2 := h1.rest.cell 0 rfl 2 rfl
 have z3 := h1.rest.cell 0 rfl 3 rfl
 have z4 := h1.rest.cell 0 rfl 4 rfl
 obtain ⟨y0, y1, y2, y3, y4⟩ := HK0.out _ h1.below
 have H1 := Tre.hid h1
 clear h1 W0
 go_wp2_with fail
 refine (HIA.out w0 _ b _ _ _ 3 HT0.out H1.out (by (try simp only [List.length_append, List.length_cons, List.length_nil]); omega) (by omega)).mono ?_
 rintro e w2 ⟨rfl, h2⟩
 clear y0 y1 y2 y3 y4 z0 z1 z2 z3 z4
 have z0 := h2.rest.cell 0 rfl 0 rfl
 have z1 := h2.rest.cell 0 rfl 1 rfl
 have z2 := h2.rest.cell 0 rfl 2 rfl
 have z3 := h2.rest.cell 0 rfl 3 rfl
 have z4 := h2.rest.cell 0 rfl 4 rfl
 have W2 := Tre.hid (wStr ⟨#[32, 42, 32]⟩ h2 (by have := HFA.out; simp only [List.length_append, List.length_cons, List.length_nil]; show _ + 3 ≤ _; omega))
 clear h2 H1 HIA
 go_wp2_with fail
 refine W2.out.mono ?_
 rintro e w3 ⟨rfl, h3⟩
 clear z0 z1 z2 z3 z4
 have z0 := h3.rest.cell 0 rfl 0 rfl
 have z1 := h3.rest.cell 0 rfl 1 rfl
 have z2 := h3.rest.cell 0 rfl 2 rfl
 have z3 := h3.rest.cell 0 rfl 3 rfl
 have z4 := h3.rest.cell 0 rfl 4 rfl
 obtain ⟨y0, y1, y2, y3, y4⟩ := HK1.out _ h3.below
 have H3 := Tre.hid h3
 have hsz : (⟨#[32, 42, 32]⟩ : ByteArray).data.toList.length = 3 := rfl
 clear h3 W2
 go_wp2_with fail
 refine (HIU.out w0 _ b _ _ _ 2 HT1.out H3.out (by have := HFA.out; simp only [List.length_append, List.length_cons, List.length_nil] at *; omega) (by omega)).mono ?_
 rintro e w4 ⟨rfl, h4⟩
 have HZ := Tre.hid h4
 have hfa := HFA.out
 have hfu := HFU.out
 clear h4 H3 HIU y0 y1 y2 y3 y4 z0 z1 z2 z3 z4
 go_wp2_with fail
 refine leaves_cons (f := 28) (args := #[.pointer (some ⟨b, 0, none⟩), .int .u8 ((41 : UInt8).toNat : Nat)]) (by simp) (by simp [go_sem]) ?_
 refine (wByteD 41 _ HZ.out (by have hs4 : (⟨#[32, 42, 32]⟩ : ByteArray).data.toList.length = 3 := rfl; rw [List.length_append, List.length_append, hs4]; simp only [List.length_append, List.length_cons, List.length_nil]; omega)).mono ?_
 rintro e u' w'' ⟨rfl, rfl, h9⟩
 exact ⟨_, results_none rfl _ _ _, rfl, by rw [HO.out]; exact h9.subs (List.sublist_cons_self ..)⟩
end Go.Proofs.YtbafalfmgibnfaaGreatDoor.typ
namespace Go.Tre
theorem fields_snoc : ∀ (ls : List (List UInt8)) (fs : List (Nat → Bool → List Sp)) (l : List UInt8) (f : Nat → Bool → List Sp) (first : Bool), ls.length = fs.length →
  spFields (ls ++ [l]) (fs ++ [f]) first = spFields ls fs first ++ ((if first = true ∧ ls = [] then [] else [⟨true, 6, [59]⟩]) ++ (⟨true, 1, l⟩ :: ⟨true, 6, [58]⟩ :: f 1 true))
 | [], [], l, f, first, _ => by
  rw [List.nil_append, List.nil_append]
  unfold spFields spFields
  cases first <;> simp
 | [], _ :: _, _, _, _, h => by simp at h
 | _ :: _, [], _, _, _, h => by simp at h
 | x :: ls, g :: fs, l, f, first, h => by
  rw [List.cons_append, List.cons_append]
  unfold spFields
  rw [fields_snoc ls fs l f false (by simpa using h)]
  rw [if_neg (show ¬ (first = true ∧ x :: ls = []) by simp), if_neg (show ¬ (false = true ∧ ls = []) by simp)]
  cases first <;> simp
def headF (labels : List (List UInt8)) (args : List Ty) (k : Nat) : List UInt8 := spell (spFields (labels.take k) (spTs (args.take k)) true)
theorem headF_succ {labels : List (List UInt8)} {args : List Ty} {k : Nat} (hl : labels.length = args.length) (hk : k < labels.length) (hg : spell (spT (args[k]'(by omega)) 1 true) = 32 :: spell (spT (args[k]'(by omega)) 1 false)) :
  headF labels args (k + 1) = ((headF labels args k ++ (if k = 0 then [] else [32, 59])) ++ (32 :: (labels[k] ++ [32, 58, 32]))) ++ spell (spT (args[k]'(by omega)) 1 false) := by
 unfold headF
 rw [List.take_add_one, List.getElem?_eq_getElem hk, List.take_add_one, List.getElem?_eq_getElem (show k < args.length by omega)]
 rw [spTs_map, spTs_map, List.map_append]
 show spell (spFields (labels.take k ++ [labels[k]]) ((args.take k).map spT ++ [spT (args[k]'(by omega))]) true) = _
 rw [fields_snoc _ _ _ _ _ (by simp; omega), spell_app, spell_app, spell, spell, hg]
 by_cases h0 : k = 0
 ·subst h0
  simp [spell, Sp.text, Sp.body]
 ·have hne : ¬ (true = true ∧ labels.take k = []) := by
   simp only [true_and, List.take_eq_nil_iff]
   intro h
   rcases h with h | h
   ·exact h0 h
   ·rw [h] at hk; simp at hk
  rw [if_neg hne, if_neg h0]
  simp [spell, Sp.text, Sp.body]
theorem headF_len {labels : List (List UInt8)} {args : List Ty} (hF : ∀ t ∈ args, Fine t) (k : Nat) : (headF labels args k).length ≤ 20 * ((labels.map fun x => x.length + 1).sum + weights args) := by
 have h := fields_len (labels.take k) (args.take k) true (fun t ht => spT_len (hF t (List.mem_of_mem_take ht)))
 have h1 : ((labels.take k).map fun x => x.length + 1).sum ≤ (labels.map fun x => x.length + 1).sum := by
  have := List.take_append_drop k labels
  have e : (labels.map fun x => x.length + 1).sum = ((labels.take k).map fun x => x.length + 1).sum + ((labels.drop k).map fun x => x.length + 1).sum := by
   conv => lhs; rw [← this]
   rw [List.map_append, List.sum_append]
  omega
 have h2 : ∀ (l : List Ty) (k : Nat), weights (l.take k) ≤ weights l := by
  intro l
  induction l with
  | nil => intro k; simp
  | cons t r ih =>
   intro k
   cases k with
   | zero => simp [weights]
   | succ k =>
    rw [List.take_succ_cons]
    unfold weights
    have := ih k
    omega
 have := h2 args k
 unfold headF
 omega
theorem take_sum {α : Type} (f : α → Nat) : ∀ (l : List α) (k : Nat) (x : α), l[k]? = some x → ((l.take k).map f).sum + f x ≤ (l.map f).sum
 | [], k, x, h => by simp at h
 | y :: r, 0, x, h => by
  simp at h
  subst h
  simp
 | y :: r, k + 1, x, h => by
  simp only [zqb] at h
  have := take_sum f r k x h
  simp only [List.take_succ_cons, List.map_cons, List.sum_cons]
  omega
theorem weights_map : ∀ l : List Ty, weights l = (l.map Ty.weight).sum
 | [] => by rw [weights_nil]; rfl
 | t :: r => by rw [weights_cons, weights_map r, List.map_cons, List.sum_cons]
theorem headF_room {labels : List (List UInt8)} {args : List Ty} (hF : ∀ t ∈ args, Fine t) {k : Nat} {x : List UInt8} {c : Ty} (hx : labels[k]? = some x) (hc : args[k]? = some c) :
  (headF labels args k).length + 20 * (x.length + 1) + 20 * c.weight ≤ 20 * ((labels.map fun x => x.length + 1).sum + weights args) := by
 have h := fields_len (labels.take k) (args.take k) true (fun t ht => spT_len (hF t (List.mem_of_mem_take ht)))
 have h1 := take_sum (fun x : List UInt8 => x.length + 1) labels k x hx
 have h2 := take_sum Ty.weight args k c hc
 rw [weights_map] at h
 rw [weights_map]
 unfold headF
 omega
end Go.Tre
namespace Go.Proofs.YtbafalfmgibnfaaGreatDoor.typ
open Go.RowKit Go.Maps Go.Tre gr
set_option maxRecDepth 100000 in
set_option maxHeartbeats 8000000 in
theorem put_object (args : List Ty) (labels : List (List UInt8)) (o : Bool) (hla : labels.length = args.length) (hF : ∀ t ∈ args, Fine t) (ih : ∀ t ∈ args, Pu t) (w0 w : World) (b : Nat) (out : List UInt8) (rs : List Res) (v : Value) (hT : TyRd w0 (.mk 3 [] args labels o) v) (hM : BldM w0 w b out rs) (hlen : out.length + 20 * (Ty.mk 3 [] args labels o).weight ≤ 1099511627776) :
  Calls Tryz.prog 30 #[.pointer (some ⟨b, 0, none⟩), v] w fun e w' => e = .returned (.tuple #[]) ∧ BldM w0 w' b (out ++ spell (spOwn 3 [] (spTs args) labels o false)) rs := by
 cases hT with
 | mk V hlab hcell hargs =>
 rename_i aa ca al cl
 have hB := hM.allocR #[.int .i64 3, .string ⟨([] : List UInt8).toArray⟩, .slice aa args.length ca, .slice al labels.length cl, .bool o] 28
 rw [hla] at hB ⊢
 have z3 := hB.rest.cell 0 rfl 3 rfl
 obtain ⟨n, hn⟩ : ∃ n, args.length = n := ⟨_, rfl⟩
 have hwl := weights_len args
 have hwt : out.length + 20 * ((labels.map fun x => x.length + 1).sum + weights args) + 20 ≤ 1099511627776 := by unfold Ty.weight at hlen; omega
 have HHL : Hid (∀ k, (headF labels args k).length ≤ 20 * ((labels.map fun x => x.length + 1).sum + weights args)) := fun k => headF_len hF k
 have HFL : Hid (∀ k (h : k < n), (∃ c r, labels[k]? = some r ∧ args[k]? = some c ∧ (headF labels args k).length + 20 * (r.length + 1) + 20 * c.weight ≤ 20 * ((labels.map fun x => x.length + 1).sum + weights args) ∧ (spell (spT c 1 false)).length ≤ 20 * c.weight ∧ (∃ bl ol, al = some ⟨bl, ol, none⟩ ∧ w0.cell? ⟨bl, ol + k, none⟩ = some (.string ⟨r.toArray⟩)) ∧
   (∃ ba oa ax cx bx dx, aa = some ⟨ba, oa, none⟩ ∧ TyRd w0 c (.agg #[.int .i64 c.kind, .string ⟨c.s.toArray⟩, .slice ax c.args.length cx, .slice bx c.labels.length dx, .bool c.opn]) ∧ ∀ (j : Nat) (u : Value), #[.int .i64 (c.kind : Int), .string ⟨c.s.toArray⟩, .slice ax c.args.length cx, .slice bx c.labels.length dx, .bool c.opn][j]? = some u → w0.cell? ⟨ba, oa + k * 5 + j, none⟩ = some u) ∧ Pu c ∧
   headF labels args (k + 1) = ((headF labels args k ++ (if k = 0 then [] else [32, 59])) ++ (32 :: (r ++ [32, 58, 32]))) ++ spell (spT c 1 false))) := fun k h => by
  have hk : k < labels.length := by omega
  have hka : k < args.length := by omega
  have hmem := List.getElem_mem hka
  have hat := List.getElem?_eq_getElem hka
  have hlat := List.getElem?_eq_getElem hk
  obtain ⟨ax, cx, bx, dx, ev⟩ := (hargs k _ hat).agg
  obtain ⟨ba, oa, ea, _, hcc⟩ := hcell k hka
  have hr := hargs k _ hat
  rw [ev] at hr
  rw [Value.agg.inj ev] at hcc
  refine ⟨_, _, hlat, hat, headF_room hF hlat hat, spT_len (hF _ hmem) 1 false, hlab k _ hlat, ⟨ba, oa, ax, cx, bx, dx, ea, hr, hcc⟩, ih _ hmem, headF_succ hla hk ?_⟩
  have := (piece_of (hF _ hmem) 1).gap []
  rwa [List.append_nil, List.append_nil] at this
 have HEND : Hid (out ++ spell (spOwn 3 [] (spTs args) labels o false) = (((out ++ [60]) ++ headF labels args n) ++ (if o then (if n = 0 then [] else [32, 59]) ++ [32, 46, 46] else [])) ++ [32, 62]) := by
  show _ = _
  unfold headF spOwn spDots
  rw [if_neg (by decide), if_neg (by decide), if_neg (by decide), List.take_of_length_le (by omega), List.take_of_length_le (by omega)]
  have h0 : (labels = []) = (n = 0) := by rw [← List.length_eq_zero_iff, hla, hn]
  simp only [h0]
  rw [spell, spell_app, spell_app]
  by_cases hz : n = 0
  ·simp [hz, spell, Sp.text, Sp.body]
   cases o <;> simp [spell, Sp.text, Sp.body]
  ·simp [hz, spell, Sp.text, Sp.body]
   cases o <;> simp [spell, Sp.text, Sp.body]
 have W0 := Tre.hid (wStr ⟨#[60]⟩ hB (by show _ + 1 ≤ _; omega))
 have HH0 : headF labels args 0 = [] := by unfold headF; simp [spTs, spFields, spell]
 rw [hn] at hB z3 W0 hwl ⊢
 have hnb : n ≤ 1099511627776 := by omega
 generalize hbx : w.heap.size = bx at W0
 clear hM hB hlen hlab hcell hargs ih hF hla hn hwl
 go_enter Tryz.func30, Tryz.ntmps30
 go_wp2_with fail
 refine W0.out.mono ?_
 rintro e w1 ⟨rfl, h1⟩
 clear z3 hbx W0
 have z3 := h1.rest.cell 0 rfl 3 rfl
 have H1 : Hid (BldM w0 w1 b ((out ++ [60]) ++ headF labels args 0) (cellsR bx 28 #[.int .i64 3, .string ⟨([] : List UInt8).toArray⟩, .slice aa n ca, .slice al n cl, .bool o] :: rs)) := by
  show BldM _ _ _ _ _
  rw [HH0, List.append_nil]
  exact h1
 clear h1 HH0
 go_wp2_with fail
 go_loopw [11] (fun v11 wr => ∃ k : Nat, k ≤ n ∧ v11 = .int .i64 k ∧ Hid (BldM w0 wr b ((out ++ [60]) ++ headF labels args k) (cellsR bx 28 #[.int .i64 3, .string ⟨([] : List UInt8).toArray⟩, .slice aa n ca, .slice al n cl, .bool o] :: rs))) (fun v11 _ => n - (intOf v11).toNat)
 case atStart => exact ⟨0, Nat.zero_le _, rfl, H1.out⟩
 case round =>
  clear z3 H1
  obtain ⟨k, hk, rfl, hI⟩ := hrel
  have y2 := hI.out.rest.cell 0 rfl 2 rfl
  have y3 := hI.out.rest.cell 0 rfl 3 rfl
  have y4 := hI.out.rest.cell 0 rfl 4 rfl
  by_cases hlt : k < n
  ·obtain ⟨c, r, _, _, hrl, hcl, ⟨bl, ol, rfl, hlc⟩, ⟨ba, oa, ax, cx, lx, dx, rfl, hrd, hcc⟩, hpu, hsucc⟩ := HFL.out k hlt
   have hhl := HHL.out k
   have HS := Tre.hid hsucc
   have HR := Tre.hid hrd
   have HP := Tre.hid hpu
   have HC := Tre.hid hcc
   have HIB := hI.out.below
   have x0 := cell_below HIB hlc
   have HHI := hI
   clear hsucc hrd hpu hcc HIB hI
   have hcat : ¬ (9223372036854775807 < 1 + r.length) := by omega
   have hcat2 : ¬ (9223372036854775807 < 1 + r.length + 3) := by omega
   have HST : Hid ((((⟨#[32]⟩ : ByteArray) ++ (⟨r.toArray⟩ : ByteArray)) ++ (⟨#[32, 58, 32]⟩ : ByteArray)).data.toList = 32 :: (r ++ [32, 58, 32])) := by
    show _ = _
    simp [ByteArray.data_append]
   have hsz : (((⟨#[32]⟩ : ByteArray) ++ (⟨r.toArray⟩ : ByteArray)) ++ (⟨#[32, 58, 32]⟩ : ByteArray)).size = 1 + r.length + 3 := by
    rw [ByteArray.size_append, ByteArray.size_append]; rfl
   by_cases h0 : k = 0
   ·subst h0
    have HS' := HS.out
    rw [if_pos rfl, List.append_nil] at HS'
    have HS2 := Tre.hid HS'
    clear HS'
    have x1 : wr.cell? ⟨bl, ol, none⟩ = some (.string ⟨r.toArray⟩) := x0
    clear x0
    have WS := Tre.hid (wStr (((⟨#[32]⟩ : ByteArray) ++ ⟨r.toArray⟩) ++ ⟨#[32, 58, 32]⟩) HHI.out (by rw [hsz]; simp only [List.length_append, List.length_cons, List.length_nil]; omega))
    clear HHI
    go_wp2_with fail
    refine WS.out.mono ?_
    rintro e w3 ⟨rfl, h3⟩
    rw [HST.out] at h3
    have y2 := h3.rest.cell 0 rfl 2 rfl
    have q0 : w3.cell? ⟨ba, oa, none⟩ = some (.int .i64 c.kind) := by have h := cell_below h3.below (HC.out 0 _ rfl); simpa using h
    have q1 : w3.cell? ⟨ba, oa + 1, none⟩ = some (.string ⟨c.s.toArray⟩) := by have h := cell_below h3.below (HC.out 1 _ rfl); simpa using h
    have q2 : w3.cell? ⟨ba, oa + 2, none⟩ = some (.slice ax c.args.length cx) := by have h := cell_below h3.below (HC.out 2 _ rfl); simpa using h
    have q3 : w3.cell? ⟨ba, oa + 3, none⟩ = some (.slice lx c.labels.length dx) := by have h := cell_below h3.below (HC.out 3 _ rfl); simpa using h
    have q4 : w3.cell? ⟨ba, oa + 4, none⟩ = some (.bool c.opn) := by have h := cell_below h3.below (HC.out 4 _ rfl); simpa using h
    have H3 := Tre.hid h3
    clear h3 WS hsz
    go_wp2_with fail
    refine (HP.out w0 _ b _ _ _ 1 HR.out H3.out (by simp only [List.length_append, List.length_cons, List.length_nil]; omega) (by omega)).mono ?_
    rintro e w4 ⟨rfl, h4⟩
    have H4 : Hid (BldM w0 w4 b ((out ++ [60]) ++ headF labels args (0 + 1)) (cellsR bx 28 #[.int .i64 3, .string ⟨([] : List UInt8).toArray⟩, .slice (some ⟨ba, oa, none⟩) n ca, .slice (some ⟨bl, ol, none⟩) n cl, .bool o] :: rs)) := by
     show BldM _ _ _ _ _
     rw [HS2.out, ← List.append_assoc, ← List.append_assoc]
     exact h4
    clear h4 H3 q0 q1 q2 q3 q4
    go_wp2_with fail
    go_roundw
    case rel => exact ⟨0 + 1, by omega, by go_num, H4.out⟩
    case measure => simp [intOf]; omega
   ·have hgt : (0 : Int) < (k : Int) := by omega
    have HS' := HS.out
    rw [if_neg h0] at HS'
    have HS2 := Tre.hid HS'
    clear HS'
    have W1 := Tre.hid (wStr ⟨#[32, 59]⟩ HHI.out (by simp only [List.length_append, List.length_cons, List.length_nil]; show _ + 2 ≤ _; omega))
    clear HHI
    go_wp2_with fail
    refine W1.out.mono ?_
    rintro e w2 ⟨rfl, h2⟩
    have x0 := cell_below h2.below hlc
    have WS := Tre.hid (wStr (((⟨#[32]⟩ : ByteArray) ++ ⟨r.toArray⟩) ++ ⟨#[32, 58, 32]⟩) h2 (by rw [hsz]; simp only [List.length_append, List.length_cons, List.length_nil]; omega))
    clear h2 W1
    go_wp2_with fail
    refine WS.out.mono ?_
    rintro e w3 ⟨rfl, h3⟩
    rw [HST.out] at h3
    have y2 := h3.rest.cell 0 rfl 2 rfl
    have q0 : w3.cell? ⟨ba, oa + k * 5, none⟩ = some (.int .i64 c.kind) := cell_below h3.below (HC.out 0 _ rfl)
    have q1 := cell_below h3.below (HC.out 1 _ rfl)
    have q2 := cell_below h3.below (HC.out 2 _ rfl)
    have q3 := cell_below h3.below (HC.out 3 _ rfl)
    have q4 := cell_below h3.below (HC.out 4 _ rfl)
    have H3 := Tre.hid h3
    clear h3 WS hsz
    go_wp2_with fail
    refine (HP.out w0 _ b _ _ _ 1 HR.out H3.out (by simp only [List.length_append, List.length_cons, List.length_nil]; omega) (by omega)).mono ?_
    rintro e w4 ⟨rfl, h4⟩
    have H4 : Hid (BldM w0 w4 b ((out ++ [60]) ++ headF labels args (k + 1)) (cellsR bx 28 #[.int .i64 3, .string ⟨([] : List UInt8).toArray⟩, .slice (some ⟨ba, oa, none⟩) n ca, .slice (some ⟨bl, ol, none⟩) n cl, .bool o] :: rs)) := by
     show BldM _ _ _ _ _
     rw [HS2.out, ← List.append_assoc, ← List.append_assoc, ← List.append_assoc]
     exact h4
    clear h4 H3 q0 q1 q2 q3 q4
    go_wp2_with fail
    go_roundw
    case rel => exact ⟨k + 1, by omega, by go_num, H4.out⟩
    case measure => simp [intOf]; omega
  ·have e : k = n := by omega
   subst e
   have hhl := HHL.out k
   cases o with
   | false =>
    have WE := Tre.hid (wStr ⟨#[32, 62]⟩ hI.out (by simp only [List.length_append, List.length_cons, List.length_nil]; show _ + 2 ≤ _; omega))
    clear hI
    go_wp2_with fail
    refine WE.out.mono ?_
    rintro e w2 ⟨rfl, h2⟩
    have HZ := Tre.hid h2
    have HE := HEND.out
    simp only [Bool.false_eq_true, if_false, List.append_nil] at HE
    have HE2 := Tre.hid HE
    clear h2 WE HE
    go_wp2_with fail
    go_end0
    exact ⟨rfl, by rw [HE2.out]; exact HZ.out.subs (List.sublist_cons_self ..)⟩
   | true =>
    by_cases h0 : k = 0
    ·subst h0
     have WD := Tre.hid (wStr ⟨#[32, 46, 46]⟩ hI.out (by simp only [List.length_append, List.length_cons, List.length_nil]; show _ + 3 ≤ _; omega))
     clear hI
     go_wp2_with fail
     refine WD.out.mono ?_
     rintro e w2 ⟨rfl, h2⟩
     have WE := Tre.hid (wStr ⟨#[32, 62]⟩ h2 (by simp only [List.length_append, List.length_cons, List.length_nil]; show _ + 3 + 2 ≤ _; omega))
     clear h2 WD
     go_wp2_with fail
     refine WE.out.mono ?_
     rintro e w3 ⟨rfl, h3⟩
     have HZ := Tre.hid h3
     have HE := HEND.out
     simp only [if_true, List.nil_append] at HE
     have HE2 := Tre.hid HE
     clear h3 WE HE
     go_wp2_with fail
     go_end0
     exact ⟨rfl, by rw [HE2.out]; exact HZ.out.subs (List.sublist_cons_self ..)⟩
    ·have hgt : (0 : Int) < (k : Int) := by omega
     have W1 := Tre.hid (wStr ⟨#[32, 59]⟩ hI.out (by simp only [List.length_append, List.length_cons, List.length_nil]; show _ + 2 ≤ _; omega))
     clear hI
     go_wp2_with fail
     refine W1.out.mono ?_
     rintro e w1' ⟨rfl, h1⟩
     have WD := Tre.hid (wStr ⟨#[32, 46, 46]⟩ h1 (by simp only [List.length_append, List.length_cons, List.length_nil]; show _ + 2 + 3 ≤ _; omega))
     clear h1 W1
     go_wp2_with fail
     refine WD.out.mono ?_
     rintro e w2 ⟨rfl, h2⟩
     have WE := Tre.hid (wStr ⟨#[32, 62]⟩ h2 (by simp only [List.length_append, List.length_cons, List.length_nil]; show _ + 2 + 3 + 2 ≤ _; omega))
     clear h2 WD
     go_wp2_with fail
     refine WE.out.mono ?_
     rintro e w3 ⟨rfl, h3⟩
     have HZ := Tre.hid h3
     have HE := HEND.out
     simp only [if_true, if_neg h0, ← List.append_assoc] at HE
     have HE2 := Tre.hid HE
     clear h3 WE HE
     go_wp2_with fail
     go_end0
     refine ⟨rfl, ?_⟩
     rw [HE2.out]
     exact HZ.out.subs (List.sublist_cons_self ..)
end Go.Proofs.YtbafalfmgibnfaaGreatDoor.typ
