/- typ.put at types that may be, but for objects. -/
import Derived.Test.YtbafalfmgibnfaaGreatDoorB20
set_option linter.unusedVariables false
namespace Go.Tre
theorem wrap_len (own lev : Nat) (f : Bool → List Sp) (g : Bool) (n : Nat) (h : ∀ g, (spell (f g)).length ≤ n) : (spell (spWrap own f lev g)).length ≤ n + 3 := by
 unfold spWrap
 split
 ·rw [spell, spell_app, List.length_append, List.length_append]
  have := h false
  cases g <;> simp [Sp.text, Sp.body, spell] <;> omega
 ·have := h g; omega
theorem text_len (g : Bool) (k : Nat) (s : List UInt8) : (Sp.text ⟨g, k, s⟩).length ≤ s.length + 2 := by
 unfold Sp.text Sp.body
 cases g <;> simp <;> split <;> simp <;> omega
theorem fields_len : ∀ (labels : List (List UInt8)) (ts : List Ty) (first : Bool), (∀ t ∈ ts, ∀ lev g, (spell (spT t lev g)).length ≤ 20 * t.weight) → (spell (spFields labels (spTs ts) first)).length ≤ 20 * ((labels.map fun x => x.length + 1).sum + weights ts)
 | [], ts, first, _ => by unfold spFields; simp [spell]
 | _ :: _, [], first, _ => by rw [spTs]; unfold spFields; simp [spell]
 | l :: ls, t :: ts, first, h => by
  have ih := fields_len ls ts false (fun u hu => h u (List.mem_cons_of_mem _ hu))
  have h1 := h t (List.mem_cons_self ..) 1 true
  have h2 := text_len true 1 l
  rw [spTs]
  unfold spFields
  rw [spell_app, spell, spell, spell_app, List.length_append, List.length_append, List.length_append, List.length_append, List.map_cons, List.sum_cons]
  rw [weights_cons]
  have h3 : (spell (if first = true then [] else [⟨true, 6, [59]⟩])).length ≤ 2 := by cases first <;> decide
  have h4 : (Sp.text ⟨true, 6, [58]⟩).length = 2 := by decide
  omega
theorem spT_len {t : Ty} (h : Fine t) : ∀ lev g, (spell (spT t lev g)).length ≤ 20 * t.weight := by
 induction h with
 | var s _ =>
  intro lev g
  rw [spT]
  refine Nat.le_trans (wrap_len _ _ _ g (s.length + 2) (fun g => ?_)) ?_
  ·have := text_len g 5 s
   show (Sp.text ⟨g, 5, s⟩ ++ []).length ≤ _
   rw [List.append_nil]; exact this
  ·simp only [weight_mk, weights_nil, List.map_nil, List.sum_nil]; omega
 | base s _ =>
  intro lev g
  rw [spT]
  refine Nat.le_trans (wrap_len _ _ _ g (s.length + 2) (fun g => ?_)) ?_
  ·have := text_len g 1 s
   show (Sp.text ⟨g, 1, s⟩ ++ []).length ≤ _
   rw [List.append_nil]; exact this
  ·simp only [weight_mk, weights_nil, List.map_nil, List.sum_nil]; omega
 | bind s a _ _ ih =>
  intro lev g
  rw [spT]
  refine Nat.le_trans (wrap_len _ _ _ g (20 * a.weight + s.length + 7) (fun g => ?_)) ?_
  ·have h1 := ih 0 g
   have h2 := text_len true 5 s
   rw [spTs, spTs]
   show (spell (spT a 0 g ++ [⟨true, 2, [97, 115]⟩, ⟨true, 5, s⟩])).length ≤ _
   rw [spell_app, List.length_append, spell, spell, spell, List.append_nil, List.length_append]
   have h3 : (Sp.text ⟨true, 2, [97, 115]⟩).length = 3 := by decide
   omega
  ·simp only [weight_mk, weights_cons, weights_nil, List.map_nil, List.sum_nil]; omega
 | op n a b hn _ _ iha ihb =>
  intro lev g
  rw [spT]
  refine Nat.le_trans (wrap_len _ _ _ g (20 * a.weight + 20 * b.weight + 4) (fun g => ?_)) ?_
  ·have h1 := iha (n + 1) g
   have h2 := ihb n true
   have ho : ownLev 2 (opS n) = n := by rcases hn with rfl | rfl <;> rfl
   rw [spTs, spTs, spTs]
   show (spell (spT a (ownLev 2 (opS n) + 1) g ++ ⟨true, 6, opS n⟩ :: spT b (ownLev 2 (opS n)) true)).length ≤ _
   rw [ho, spell_app, spell, List.length_append, List.length_append]
   have h3 : (Sp.text ⟨true, 6, opS n⟩).length ≤ 3 := by rcases hn with rfl | rfl <;> decide
   omega
  ·simp only [weight_mk, weights_cons, weights_nil, List.map_nil, List.sum_nil]; omega
 | obj args labels o _ _ _ _ ih =>
  intro lev g
  rw [spT]
  refine Nat.le_trans (wrap_len _ _ _ g (20 * ((labels.map fun x => x.length + 1).sum + weights args) + 9) (fun g => ?_)) ?_
  ·show (spell (⟨g, 6, [60]⟩ :: (spFields labels (spTs args) true ++ (spDots labels o ++ [⟨true, 6, [62]⟩])))).length ≤ _
   rw [spell, spell_app, spell_app, List.length_append, List.length_append, List.length_append]
   have h1 := fields_len labels args true ih
   have h2 : (Sp.text ⟨g, 6, [60]⟩).length ≤ 2 := by cases g <;> decide
   have h3 : (spell (spDots labels o)).length ≤ 5 := by
    unfold spDots
    cases o
    ·simp [spell]
    ·simp only [if_true]; split <;> decide
   have h4 : (spell [(⟨true, 6, [62]⟩ : Sp)]).length = 2 := by decide
   omega
  ·simp only [weight_mk]; omega
end Go.Tre
namespace Go.Proofs.YtbafalfmgibnfaaGreatDoor.typ
open Go.RowKit Go.Maps Go.Tre gr
def Pu (t : Ty) : Prop := ∀ (w0 w : World) (b : Nat) (out : List UInt8) (rs : List Res) (v : Value) (lev : Nat), TyRd w0 t v → BldM w0 w b out rs → out.length + 20 * t.weight ≤ 1099511627776 → lev ≤ 3 →
 Calls Tryz.prog 16 #[.pointer (some ⟨b, 0, none⟩), v, .int .i64 lev] w fun e w' => e = .returned (.tuple #[]) ∧ BldM w0 w' b (out ++ spell (spT t lev false)) rs
set_option maxRecDepth 100000 in
set_option maxHeartbeats 4000000 in
theorem put_var (s : List UInt8) (w0 w : World) (b : Nat) (out : List UInt8) (rs : List Res) (v : Value) (lev : Nat) (hT : TyRd w0 (Ty.mk 1 s [] [] false) v) (hM : BldM w0 w b out rs) (hlen : out.length + 20 * (Ty.mk 1 s [] [] false).weight ≤ 1099511627776) (hlev : lev ≤ 3) :
  Calls Tryz.prog 16 #[.pointer (some ⟨b, 0, none⟩), v, .int .i64 lev] w fun e w' => e = .returned (.tuple #[]) ∧ BldM w0 w' b (out ++ spell (spT (Ty.mk 1 s [] [] false) lev false)) rs := by
 have HTR := Tre.hid hT
 cases hT with
 | mk V hlab hcell hargs =>
 rename_i aa ca al cl
 have hB := hM.allocR #[.int .i64 1, .string ⟨(s).toArray⟩, .slice aa 0 ca, .slice al 0 cl, .bool false] 28
 have z0 := hB.rest.cell 0 rfl 0 rfl
 have z1 := hB.rest.cell 0 rfl 1 rfl
 have z2 := hB.rest.cell 0 rfl 2 rfl
 have z3 := hB.rest.cell 0 rfl 3 rfl
 have z4 := hB.rest.cell 0 rfl 4 rfl
 have HB := Tre.hid hB
 have hcat : ¬ (9223372036854775807 < 1 + s.length) := by simp only [weight_mk, weights_nil, List.map_nil, List.sum_nil] at hlen; omega
 have hl1 : ¬ ((3 : Int) < (lev : Int)) := by omega
 have HO : Hid (spell (spT (.mk 1 s [] [] false) lev false) = ((⟨#[39]⟩ : ByteArray) ++ (⟨s.toArray⟩ : ByteArray)).data.toList) := by
  show _ = _
  rw [spT]
  unfold spWrap
  rw [if_neg (by show ¬ 3 < lev; omega)]
  simp [spOwn, spell, Sp.text, Sp.body, ByteArray.data_append]
 have WS := Tre.hid (wStr ((⟨#[39]⟩ : ByteArray) ++ ⟨s.toArray⟩) hB (by rw [ByteArray.size_append]; simp only [weight_mk, weights_nil, List.map_nil, List.sum_nil] at hlen; show _ + (1 + s.length) ≤ _; omega))
 clear hM hB hlen hlev HTR hlab hcell hargs
 go_enter_defers Tryz.func16, Tryz.ntmps16
 go_wp2_with fail
 refine WS.out.mono ?_
 rintro e w1 ⟨rfl, h1⟩
 have HZ := Tre.hid h1
 clear h1 WS z0 z1 z2 z3 z4
 go_wp2_with fail
 exact ⟨_, results_none rfl _ _ _, rfl, by rw [HO.out]; exact HZ.out.subs (List.sublist_cons_self ..)⟩
set_option maxRecDepth 100000 in
set_option maxHeartbeats 4000000 in
theorem put_base (s : List UInt8) (hs : s ∈ basics) (w0 w : World) (b : Nat) (out : List UInt8) (rs : List Res) (v : Value) (lev : Nat) (hT : TyRd w0 (Ty.mk 2 s [] [] false) v) (hM : BldM w0 w b out rs) (hlen : out.length + 20 * (Ty.mk 2 s [] [] false).weight ≤ 1099511627776) (hlev : lev ≤ 3) :
  Calls Tryz.prog 16 #[.pointer (some ⟨b, 0, none⟩), v, .int .i64 lev] w fun e w' => e = .returned (.tuple #[]) ∧ BldM w0 w' b (out ++ spell (spT (Ty.mk 2 s [] [] false) lev false)) rs := by
 have HTR := Tre.hid hT
 cases hT with
 | mk V hlab hcell hargs =>
 rename_i aa ca al cl
 have hB := hM.allocR #[.int .i64 2, .string ⟨(s).toArray⟩, .slice aa 0 ca, .slice al 0 cl, .bool false] 28
 have z0 := hB.rest.cell 0 rfl 0 rfl
 have z1 := hB.rest.cell 0 rfl 1 rfl
 have z2 := hB.rest.cell 0 rfl 2 rfl
 have z3 := hB.rest.cell 0 rfl 3 rfl
 have z4 := hB.rest.cell 0 rfl 4 rfl
 have HB := Tre.hid hB
 have hl1 : ¬ ((3 : Int) < (lev : Int)) := by omega
 have hn1 : s ≠ [45, 62] := fun e => by subst e; exact absurd hs (by decide)
 have hn2 : s ≠ [42] := fun e => by subst e; exact absurd hs (by decide)
 have e1 : (s == [45, 62]) = false := by simpa using hn1
 have e2 : (s == [42]) = false := by simpa using hn2
 have e3 : (s = [45, 62]) = False := by simpa using hn1
 have e4 : (s = [42]) = False := by simpa using hn2
 have HO : Hid (spell (spT (.mk 2 s [] [] false) lev false) = (⟨s.toArray⟩ : ByteArray).data.toList) := by
  show _ = _
  rw [spT]
  have ho : ownLev 2 s = 3 := by unfold ownLev; rw [if_neg (by decide), if_pos rfl, if_neg hn1, if_neg hn2]
  unfold spWrap
  rw [ho, if_neg (by omega), spTs]
  simp [spOwn, spell, Sp.text, Sp.body]
 have WS := Tre.hid (wStr ⟨s.toArray⟩ hB (by simp only [weight_mk, weights_nil, List.map_nil, List.sum_nil] at hlen; show _ + s.length ≤ _; omega))
 clear hM hB hlen hlev HTR hlab hcell hargs hs hn1 hn2
 go_enter_defers Tryz.func16, Tryz.ntmps16
 go_wp2_with fail
 refine WS.out.mono ?_
 rintro e w1 ⟨rfl, h1⟩
 have HZ := Tre.hid h1
 clear h1 WS z0 z1 z2 z3 z4
 go_wp2_with fail
 exact ⟨_, results_none rfl _ _ _, rfl, by rw [HO.out]; exact HZ.out.subs (List.sublist_cons_self ..)⟩
set_option maxRecDepth 100000 in
set_option maxHeartbeats 4000000 in
theorem put_as (s : List UInt8) (a : Ty) (hF : Fine a) (ih : Pu a) (w0 w : World) (b : Nat) (out : List UInt8) (rs : List Res) (v : Value) (lev : Nat) (hT : TyRd w0 (Ty.mk 4 s [a] [] false) v) (hM : BldM w0 w b out rs) (hlen : out.length + 20 * (Ty.mk 4 s [a] [] false).weight ≤ 1099511627776) (hlev : lev ≤ 3) (hc : ¬ 0 < lev) :
  Calls Tryz.prog 16 #[.pointer (some ⟨b, 0, none⟩), v, .int .i64 lev] w fun e w' => e = .returned (.tuple #[]) ∧ BldM w0 w' b (out ++ spell (spT (Ty.mk 4 s [a] [] false) lev false)) rs := by
 have HTR := Tre.hid hT
 cases hT with
 | mk V hlab hcell hargs =>
 rename_i aa ca al cl
 have hB := hM.allocR #[.int .i64 4, .string ⟨(s).toArray⟩, .slice aa 1 ca, .slice al 0 cl, .bool false] 28
 have z0 := hB.rest.cell 0 rfl 0 rfl
 have z1 := hB.rest.cell 0 rfl 1 rfl
 have z2 := hB.rest.cell 0 rfl 2 rfl
 have z3 := hB.rest.cell 0 rfl 3 rfl
 have z4 := hB.rest.cell 0 rfl 4 rfl
 have HT0 := Tre.hid (hargs 0 a rfl)
 obtain ⟨a0, c0, l0, d0, ev0⟩ := (hargs 0 a rfl).agg
 obtain ⟨ab0, ao0, eq0, _, hk0⟩ := hcell 0 (by simp)
 rw [ev0] at HT0
 have hv0 := Value.agg.inj ev0
 rw [hv0] at hk0
 have HK0 : Hid (∀ W, Below w0.heap.size w0 W → W.cell? ⟨ab0, ao0, none⟩ = some (.int .i64 (a).kind) ∧ W.cell? ⟨ab0, ao0 + 1, none⟩ = some (.string ⟨(a).s.toArray⟩) ∧ W.cell? ⟨ab0, ao0 + 2, none⟩ = some (.slice a0 (a).args.length c0) ∧ W.cell? ⟨ab0, ao0 + 3, none⟩ = some (.slice l0 (a).labels.length d0) ∧ W.cell? ⟨ab0, ao0 + 4, none⟩ = some (.bool (a).opn)) := fun W hW => ⟨cell_below hW (hk0 0 _ rfl), cell_below hW (hk0 1 _ rfl), cell_below hW (hk0 2 _ rfl), cell_below hW (hk0 3 _ rfl), cell_below hW (hk0 4 _ rfl)⟩
 subst eq0
 have hcat : ¬ (9223372036854775807 < 1 + s.length) := by simp only [weight_mk, List.map_nil, List.sum_nil] at hlen; omega
 have hl1 : ¬ ((0 : Int) < (lev : Int)) := by omega
 have hwt : out.length + 20 * a.weight + 20 * s.length + 20 ≤ 1099511627776 := by simp only [weight_mk, weights_cons, weights_nil, List.map_nil, List.sum_nil] at hlen; omega
 have hfl := spT_len hF 0 false
 have HFL := Tre.hid hfl
 have HO : Hid (out ++ spell (spT (.mk 4 s [a] [] false) lev false) = ((out ++ spell (spT a 0 false)) ++ (⟨#[32, 97, 115, 32]⟩ : ByteArray).data.toList) ++ ((⟨#[39]⟩ : ByteArray) ++ (⟨s.toArray⟩ : ByteArray)).data.toList) := by
  show _ = _
  rw [spT]
  unfold spWrap
  rw [if_neg (show ¬ ownLev 4 s < lev from by show ¬ 0 < lev; omega), spTs, spTs]
  simp [spOwn, spell, spell_app, Sp.text, Sp.body, ByteArray.data_append]
 have HIH := Tre.hid ih
 have H1 := Tre.hid hB
 obtain ⟨y0, y1, y2, y3, y4⟩ := HK0.out _ hB.below
 clear hM hB hlen HTR hlab hcell hargs ev0 hv0 hk0 ih hfl
 go_enter_defers Tryz.func16, Tryz.ntmps16
 go_wp2_with fail
 refine (HIH.out w0 _ b _ _ _ 0 HT0.out H1.out (by (try simp only [List.length_append, List.length_cons, List.length_nil]); omega) (by omega)).mono ?_
 rintro e w2 ⟨rfl, h2⟩
 have W2 := Tre.hid (wStr ⟨#[32, 97, 115, 32]⟩ h2 (by have := HFL.out; simp only [List.length_append]; show _ + 4 ≤ _; omega))
 clear h2 H1 HIH y0 y1 y2 y3 y4 z0 z1 z2 z3 z4
 go_wp2_with fail
 refine W2.out.mono ?_
 rintro e w3 ⟨rfl, h3⟩
 have z0 := h3.rest.cell 0 rfl 0 rfl
 have z1 := h3.rest.cell 0 rfl 1 rfl
 have z2 := h3.rest.cell 0 rfl 2 rfl
 have z3 := h3.rest.cell 0 rfl 3 rfl
 have z4 := h3.rest.cell 0 rfl 4 rfl
 have W3 := Tre.hid (wStr ((⟨#[39]⟩ : ByteArray) ++ ⟨s.toArray⟩) h3 (by have := HFL.out; rw [ByteArray.size_append]; simp only [List.length_append, List.length_cons, List.length_nil]; show _ + 4 + (1 + s.length) ≤ _; omega))
 clear h3 W2
 go_wp2_with fail
 refine W3.out.mono ?_
 rintro e w4 ⟨rfl, h4⟩
 have HZ := Tre.hid h4
 have hfl := HFL.out
 have hsz : ((⟨#[39]⟩ : ByteArray) ++ (⟨s.toArray⟩ : ByteArray)).data.toList.length = 1 + s.length := by simp [ByteArray.data_append, Nat.add_comm]
 clear h4 W3 z0 z1 z2 z3 z4
 go_wp2_with fail
 exact ⟨_, results_none rfl _ _ _, rfl, by rw [HO.out]; exact HZ.out.subs (List.sublist_cons_self ..)⟩
set_option maxRecDepth 100000 in
set_option maxHeartbeats 4000000 in
theorem put_asB (s : List UInt8) (a : Ty) (hF : Fine a) (ih : Pu a) (w0 w : World) (b : Nat) (out : List UInt8) (rs : List Res) (v : Value) (lev : Nat) (hT : TyRd w0 (Ty.mk 4 s [a] [] false) v) (hM : BldM w0 w b out rs) (hlen : out.length + 20 * (Ty.mk 4 s [a] [] false).weight ≤ 1099511627776) (hlev : lev ≤ 3) (hc : 0 < lev) :
  Calls Tryz.prog 16 #[.pointer (some ⟨b, 0, none⟩), v, .int .i64 lev] w fun e w' => e = .returned (.tuple #[]) ∧ BldM w0 w' b (out ++ spell (spT (Ty.mk 4 s [a] [] false) lev false)) rs := by
 have HTR := Tre.hid hT
 cases hT with
 | mk V hlab hcell hargs =>
 rename_i aa ca al cl
 have hB := hM.allocR #[.int .i64 4, .string ⟨(s).toArray⟩, .slice aa 1 ca, .slice al 0 cl, .bool false] 28
 have z0 := hB.rest.cell 0 rfl 0 rfl
 have z1 := hB.rest.cell 0 rfl 1 rfl
 have z2 := hB.rest.cell 0 rfl 2 rfl
 have z3 := hB.rest.cell 0 rfl 3 rfl
 have z4 := hB.rest.cell 0 rfl 4 rfl
 have HT0 := Tre.hid (hargs 0 a rfl)
 obtain ⟨a0, c0, l0, d0, ev0⟩ := (hargs 0 a rfl).agg
 obtain ⟨ab0, ao0, eq0, _, hk0⟩ := hcell 0 (by simp)
 rw [ev0] at HT0
 have hv0 := Value.agg.inj ev0
 rw [hv0] at hk0
 have HK0 : Hid (∀ W, Below w0.heap.size w0 W → W.cell? ⟨ab0, ao0, none⟩ = some (.int .i64 (a).kind) ∧ W.cell? ⟨ab0, ao0 + 1, none⟩ = some (.string ⟨(a).s.toArray⟩) ∧ W.cell? ⟨ab0, ao0 + 2, none⟩ = some (.slice a0 (a).args.length c0) ∧ W.cell? ⟨ab0, ao0 + 3, none⟩ = some (.slice l0 (a).labels.length d0) ∧ W.cell? ⟨ab0, ao0 + 4, none⟩ = some (.bool (a).opn)) := fun W hW => ⟨cell_below hW (hk0 0 _ rfl), cell_below hW (hk0 1 _ rfl), cell_below hW (hk0 2 _ rfl), cell_below hW (hk0 3 _ rfl), cell_below hW (hk0 4 _ rfl)⟩
 subst eq0
 have hcat : ¬ (9223372036854775807 < 1 + s.length) := by simp only [weight_mk, List.map_nil, List.sum_nil] at hlen; omega
 have hl1 : (0 : Int) < (lev : Int) := by omega
 have hwt : out.length + 20 * a.weight + 20 * s.length + 20 ≤ 1099511627776 := by simp only [weight_mk, weights_cons, weights_nil, List.map_nil, List.sum_nil] at hlen; omega
 have hfl := spT_len hF 0 false
 have HFL := Tre.hid hfl
 have HO : Hid (out ++ spell (spT (.mk 4 s [a] [] false) lev false) = (((out ++ [40]) ++ spell (spT a 0 false)) ++ (⟨#[32, 97, 115, 32]⟩ : ByteArray).data.toList) ++ ((⟨#[39]⟩ : ByteArray) ++ (⟨s.toArray⟩ : ByteArray)).data.toList ++ [41]) := by
  show _ = _
  rw [spT]
  unfold spWrap
  rw [if_pos (show ownLev 4 s < lev from by show 0 < lev; omega), spTs, spTs]
  simp [spOwn, spell, spell_app, Sp.text, Sp.body, ByteArray.data_append]
 have HIH := Tre.hid ih
 have W0 := Tre.hid (wByte 40 hB (by omega))
 clear hM hB hlen HTR hlab hcell hargs ev0 hv0 hk0 ih hfl
 go_enter_defers Tryz.func16, Tryz.ntmps16
 go_wp2_with fail
 refine W0.out.mono ?_
 rintro e w1 ⟨rfl, h1⟩
 clear z0 z1 z2 z3 z4
 have z0 := h1.rest.cell 0 rfl 0 rfl
 have z1 := h1.rest.cell 0 rfl 1 rfl
 have z2 := h1.rest.cell 0 rfl 2 rfl
 have z3 := h1.rest.cell 0 rfl 3 rfl
 have z4 := h1.rest.cell 0 rfl 4 rfl
 obtain ⟨y0, y1, y2, y3, y4⟩ := HK0.out _ h1.below
 have H1 := Tre.hid h1
 clear h1 W0
 go_wp2_with fail
 refine (HIH.out w0 _ b _ _ _ 0 HT0.out H1.out (by (try simp only [List.length_append, List.length_cons, List.length_nil]); omega) (by omega)).mono ?_
 rintro e w2 ⟨rfl, h2⟩
 have W2 := Tre.hid (wStr ⟨#[32, 97, 115, 32]⟩ h2 (by have := HFL.out; simp only [List.length_append, List.length_cons, List.length_nil]; show _ + 4 ≤ _; omega))
 clear h2 H1 HIH y0 y1 y2 y3 y4 z0 z1 z2 z3 z4
 go_wp2_with fail
 refine W2.out.mono ?_
 rintro e w3 ⟨rfl, h3⟩
 have z0 := h3.rest.cell 0 rfl 0 rfl
 have z1 := h3.rest.cell 0 rfl 1 rfl
 have z2 := h3.rest.cell 0 rfl 2 rfl
 have z3 := h3.rest.cell 0 rfl 3 rfl
 have z4 := h3.rest.cell 0 rfl 4 rfl
 have W3 := Tre.hid (wStr ((⟨#[39]⟩ : ByteArray) ++ ⟨s.toArray⟩) h3 (by have := HFL.out; rw [ByteArray.size_append]; simp only [List.length_append, List.length_cons, List.length_nil]; show _ + 4 + (1 + s.length) ≤ _; omega))
 clear h3 W2
 go_wp2_with fail
 refine W3.out.mono ?_
 rintro e w4 ⟨rfl, h4⟩
 have HZ := Tre.hid h4
 have hfl := HFL.out
 have hsz : ((⟨#[39]⟩ : ByteArray) ++ (⟨s.toArray⟩ : ByteArray)).data.toList.length = 1 + s.length := by simp [ByteArray.data_append, Nat.add_comm]
 clear h4 W3 z0 z1 z2 z3 z4
 go_wp2_with fail
 refine leaves_cons (f := 28) (args := #[.pointer (some ⟨b, 0, none⟩), .int .u8 ((41 : UInt8).toNat : Nat)]) (by simp) (by simp [go_sem]) ?_
 refine (wByteD 41 _ HZ.out (by have hs4 : (⟨#[32, 97, 115, 32]⟩ : ByteArray).data.toList.length = 4 := rfl; rw [List.length_append, hsz, List.length_append, hs4]; simp only [List.length_append, List.length_cons, List.length_nil]; omega)).mono ?_
 rintro e u' w'' ⟨rfl, rfl, h9⟩
 exact ⟨_, results_none rfl _ _ _, rfl, by rw [HO.out]; exact h9.subs (List.sublist_cons_self ..)⟩
end Go.Proofs.YtbafalfmgibnfaaGreatDoor.typ
