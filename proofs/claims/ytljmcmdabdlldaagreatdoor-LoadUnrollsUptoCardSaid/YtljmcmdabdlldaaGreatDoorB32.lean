/- load.start, where a name is bound twice or means nothing but itself. Layer 7, plain: what a loader has made of a type's parts, once it has come to the end. -/
import Derived.Test.YtljmcmdabdlldaaGreatDoorB25
import Derived.Test.YtljmcmdabdlldaaGreatDoorB31
import Derived.Test.YtljmcmdabdlldaaGreatDoorB30
set_option linter.unusedVariables false
namespace Go.Proofs.YtljmcmdabdlldaaGreatDoor.load
open Go.RowKit Go.Maps Go.Shelf Go.Tre lex gr
theorem BadAt.only {w0 w : World} {v2 e : Value} {rs : List Res} (h : BadAt w0 w v2 e rs) : BadAt w0 w v2 e [] := by
 obtain ⟨q, r, c, p, rfl, m⟩ := h
 exact ⟨q, r, c, p, rfl, m.sub (by simp)⟩
theorem BadAt.after {w0 w w' : World} {v2 e : Value} {rs : List Res} (m : Mem w0 w rs) (h : BadAt w w' v2 e []) : BadAt w0 w' v2 e [] := by
 obtain ⟨q, r, c, p, rfl, m1⟩ := h
 exact ⟨q, r, c, p, rfl, (m.call m1).sub (by simp)⟩
theorem BadAt.iface {w0 w : World} {v2 e : Value} {rs : List Res} (h : BadAt w0 w v2 e rs) : ∃ q : Nat, e = .iface 171 (.pointer (some ⟨q, 0, none⟩)) := by
 obtain ⟨q, _, _, _, rfl, _⟩ := h
 exact ⟨q, rfl⟩
set_option maxRecDepth 100000 in
set_option maxHeartbeats 16000000 in
theorem start_twice (T : List Ent) (ad : Nat → Addr) (hS : SmallT T) (hR : Rises T) (h0 : 0 < T.length) (k : Nat) (hk : T.length ≤ k) (w : World) (hE : EntsAt w T ad) (hb : bind1 T k 0 (fun _ => none, 0) = none) :
  Calls Tryz.prog 21 #[.pointer (some (ad 0))] w fun e w' => ∃ v, e = .returned (.tuple #[.pointer none, v]) ∧ BadAt w w' errs.vTwo v [] := by
 have hmm := @run_makeMap Tryz.prog
 have M0 := ((((Mem.nil w).allocMap Tryz.prog 9 Value.string (pv ad)).allocMap Tryz.prog 9 Value.string evn).allocPMap).allocR #[.map (some w.heap.size), .map (some (w.heap.size + 1)), .map (some (w.heap.size + 1 + 1)), .slice none 0 0, .int .i64 0] 71
 simp only [World.size_alloc] at M0
 have HM0 := Tre.hid M0
 have hbind := bind_all w T ad hE hS hR (w.heap.size + 1 + 1 + 1) w.heap.size (w.heap.size + 1) (w.heap.size + 1 + 1) (.slice none 0 0) k 0 (fun _ => none, 0) none _ _ h0 (by omega) hb (HM0.out.front 3 rfl)
 obtain ⟨b, off, hadx⟩ : ∃ b off, ad 0 = ⟨b, off, none⟩ := by
  obtain ⟨b, off, _, _, _, _, ha, _⟩ := hE.at_ 0 _ (List.getElem?_eq_getElem h0)
  exact ⟨b, off, ha⟩
 rw [hadx] at hbind ⊢
 have HBI := Tre.hid hbind
 have HNN := Tre.hid neq_nil
 clear hE hS hR hb M0 hbind hadx h0 hk
 go_enter Tryz.func21, Tryz.ntmps21
 go_wp2_with fail
 refine HBI.out.mono ?_
 rintro e w1 ⟨v, bd', rfl, hbad⟩
 have HB := Tre.hid hbad.only
 obtain ⟨q, rfl⟩ := hbad.iface
 have nn := HNN.out
 clear HBI HM0 hbad
 go_wp2_with fail
 go_ret2
 exact ⟨_, rfl, HB.out⟩
set_option maxRecDepth 100000 in
set_option maxHeartbeats 16000000 in
theorem start_end (T : List Ent) (ad : Nat → Addr) (hS : SmallT T) (hR : Rises T) (hA : ∀ (i : Nat) (e : Ent), T[i]? = some e → e.kind = 4 → 0 < e.args.length) (h0 : 0 < T.length) (k : Nat) (hk : T.length ≤ k) (bd : ByteArray → Option Nat) (n : Nat) (hn : n ≤ 4194304) (w : World) (hE : EntsAt w T ad) (hb : bind1 T k 0 (fun _ => none, 0) = some (bd, n)) (hB : BdOk T bd)
  (sb : ByteArray) (xb : Nat) (hs : bd sb = some xb) (hf : follow1 T bd (2 * n + 2) xb = none) :
  Calls Tryz.prog 21 #[.pointer (some (ad 0))] w fun e w' => ∃ v, e = .returned (.tuple #[.pointer none, v]) ∧ BadAt w w' errs.vEnd v [] := by
 have hmm := @run_makeMap Tryz.prog
 have M0 := ((((Mem.nil w).allocMap Tryz.prog 9 Value.string (pv ad)).allocMap Tryz.prog 9 Value.string evn).allocPMap).allocR #[.map (some w.heap.size), .map (some (w.heap.size + 1)), .map (some (w.heap.size + 1 + 1)), .slice none 0 0, .int .i64 0] 71
 simp only [World.size_alloc] at M0
 have HM0 := Tre.hid M0
 have hbind := bind_all w T ad hE hS hR (w.heap.size + 1 + 1 + 1) w.heap.size (w.heap.size + 1) (w.heap.size + 1 + 1) (.slice none 0 0) k 0 (fun _ => none, 0) _ _ _ h0 (by omega) hb (HM0.out.front 3 rfl)
 obtain ⟨b, off, hadx⟩ : ∃ b off, ad 0 = ⟨b, off, none⟩ := by
  obtain ⟨b, off, _, _, _, _, ha, _⟩ := hE.at_ 0 _ (List.getElem?_eq_getElem h0)
  exact ⟨b, off, ha⟩
 rw [hadx] at hbind ⊢
 have HBI := Tre.hid hbind
 have HE := Tre.hid hE
 have HS := Tre.hid hS
 have HR := Tre.hid hR
 have HA := Tre.hid hA
 have HBO := Tre.hid hB
 have HSB := Tre.hid hs
 have HF := Tre.hid hf
 have HNN := Tre.hid neq_nil
 clear hE hS hR hA hb M0 hbind hadx h0 hk hB hs hf
 go_enter Tryz.func21, Tryz.ntmps21
 go_wp2_with fail
 refine HBI.out.mono ?_
 rintro e w1 ⟨rfl, M1⟩
 clear HBI HM0
 generalize w.heap.size + 1 + 1 + 1 = lb at *
 generalize w.heap.size + 1 + 1 = mm at *
 generalize w.heap.size + 1 = mv at *
 generalize hmb : w.heap.size = mb at *
 have M2 : Mem w w1 (mapR Tryz.prog 9 Value.string (pv ad) mb n bd :: cellsR lb 71 #[.map (some mb), .map (some mv), .map (some mm), (.slice none 0 0), .int .i64 0] :: pmapR mm 0 (fun _ => none) :: mapR Tryz.prog 9 Value.string evn mv 0 (fun _ => none) :: []) := M1
 obtain ⟨es, clock, bad, hbm, hbv, M3, hst, hent, hback⟩ := M2.rawBad HSB.out
 have l0 : w1.cell? ⟨lb, 0, none⟩ = some (.map (some mb)) := M2.cell 1 rfl 0 rfl
 have hrange := run_range_map (P := Tryz.prog) w1 67 9 61 mb es clock Tryz.underlying67 (M3.at_ 0 rfl)
 have HM4 := Tre.hid (M3.rangeBad (b := mb) hst hbm)
 generalize hr : w1.heap.size = r at *
 have HST := Tre.hid hst
 have HEN := Tre.hid hent
 have HBK := Tre.hid hback
 have HBV := Tre.hid hbv
 clear M1 M2 M3 hst hent hback hr hmb hbm hbv
 go_wp2_with fail
 go_loopg [7] es.size (fun gk v7 wr => ∃ u7 : Value, v7 = u7 ∧ Hid (Mem w wr (iterB r mb es clock gk bad :: rawR mb es clock :: cellsR lb 71 #[.map (some mb), .map (some mv), .map (some mm), (.slice none 0 0), .int .i64 0] :: pmapR mm 0 (fun _ => none) :: mapR Tryz.prog 9 Value.string evn mv 0 (fun _ => none) :: [])))
 case atStart => exact ⟨_, rfl, HM4.out⟩
 case round =>
  clear HM4 l0 hrange
  obtain ⟨u7, rfl, HM⟩ := hrel
  go_wp2_with (refine wpList_next_bad rfl _ rfl mb r gk clock es bad rfl HM.out HST.out ?_)
  ·intro e w2 cnt' hem hlt hM2 hor hen
   obtain ⟨s, x, e1, e2, e3⟩ := HEN.out e (by first | exact hem | exact Array.mem_toList_iff.2 hem)
   obtain ⟨ex, hex, _⟩ := HBO.out s x e3
   have hxl := (List.getElem?_eq_some_iff.1 hex).1
   have hen' : (Instr.entry (.pointer (some ⟨r, 0, none⟩))).run Tryz.prog w2 = .ok (.tuple #[.string s, .pointer (some (ad x))]) w2 := by rw [e1, e2] at hen; exact hen
   have HLT := Tre.hid hlt
   have hML := hM2.front 1 rfl
   have hMM := (HBK.out _ _ _ hM2).front 1 rfl
   cases hfx : follow1 T bd (2 * n + 2) x with
   | none =>
    have HFW := Tre.hid (follow_no w T ad HE.out HS.out HR.out HA.out lb mb mv mm (.slice none 0 0) bd HBO.out n hn _ x w2 hxl hfx hMM)
    have HM2 := Tre.hid hM2
    rw [e1, e2]
    clear hM2 e1 e2 e3 hem HM hlt hen hor hML hMM hfx hex hxl
    simp only [pv]
    go_wp2_with fail
    refine HFW.out.mono ?_
    rintro e' w3 ⟨v, rfl, hbad⟩
    have HB := Tre.hid (hbad.after HM2.out)
    obtain ⟨q, rfl⟩ := hbad.iface
    have nn := HNN.out
    clear hbad HFW hen' HM2
    go_wp2_with fail
    go_ret2
    exact ⟨_, rfl, HB.out⟩
   | some rr =>
    have hM2' : Mem w w2 (iterB r mb es clock cnt' bad :: rawR mb es clock :: cellsR lb 71 #[.map (some mb), .map (some mv), .map (some mm), (.slice none 0 0), .int .i64 0] :: pmapR mm 0 (fun _ => none) :: mapR Tryz.prog 9 Value.string evn mv 0 (fun _ => none) :: []) := by
     rcases hor with hq | hq
     ·exfalso
      subst hq
      have h1 := HBV.out
      rw [e2] at h1
      obtain ⟨eb, heb, _⟩ := HBO.out sb xb HSB.out
      have hxb := (List.getElem?_eq_some_iff.1 heb).1
      have h2 : ad x = ad xb := by
       unfold pv at h1
       injection h1 with h1
       injection h1
      have h3 := HE.out.inj x xb hxl hxb h2
      subst h3
      have h4 := HF.out
      rw [hfx] at h4
      cases h4
     ·exact hq
    have HM2 := Tre.hid hM2'
    have HFW := Tre.hid (follow_any w T ad HE.out HS.out lb mb mv mm (.slice none 0 0) bd n hn _ x rr w2 hfx hMM)
    rw [e1, e2]
    clear hM2 hM2' e1 e2 e3 hem HM hlt hen hor hML hMM hfx hex hxl
    simp only [pv]
    go_wp2_with fail
    refine HFW.out.mono ?_
    rintro e' w3 ⟨rfl, b3⟩
    have HM3 := Tre.hid (HM2.out.quiet b3)
    clear b3 HFW hen' HM2
    go_wp2_with fail
    go_roundg cnt'
    case measure => exact HLT.out
    case rel => exact ⟨_, rfl, HM3.out⟩
end Go.Proofs.YtljmcmdabdlldaaGreatDoor.load
namespace Go.Tre
def valAt (T : List Ent) (bd : Bd) (st : LSt) (i : Nat) : Option Nat := (follow1 T bd.1 (2 * bd.2 + 2) i).bind fun x => (T[x]?).bind fun e => if e.kind = 1 then st.vars ⟨e.s.toArray⟩ else st.made x
structure Ext (st st' : LSt) : Prop where
 ns : ∃ l, st'.ns = st.ns ++ l
 vars : ∀ s a, st.vars s = some a → st'.vars s = some a
 made : ∀ x a, st.made x = some a → st'.made x = some a
theorem Ext.refl (st : LSt) : Ext st st := ⟨⟨[], by simp⟩, fun _ _ h => h, fun _ _ h => h⟩
theorem Ext.trans {a b c : LSt} (h : Ext a b) (k : Ext b c) : Ext a c := by
 obtain ⟨l, hl⟩ := h.ns
 obtain ⟨m, hm⟩ := k.ns
 exact ⟨⟨l ++ m, by rw [hm, hl, List.append_assoc]⟩, fun s x hs => k.vars s x (h.vars s x hs), fun s x hs => k.made s x (h.made s x hs)⟩
theorem Ext.at_ {st st' : LSt} (h : Ext st st') {a : Nat} {n : Tre.Node} (hn : st.ns[a]? = some n) : st'.ns[a]? = some n := by
 obtain ⟨l, hl⟩ := h.ns
 rw [hl, List.getElem?_append_left (List.getElem?_eq_some_iff.1 hn).1]; exact hn
theorem Ext.len {st st' : LSt} (h : Ext st st') : st.ns.length ≤ st'.ns.length := by
 obtain ⟨l, hl⟩ := h.ns
 rw [hl, List.length_append]; omega
section
variable {T : List Ent} {bd : Bd}
theorem valAt_ext {st st' : LSt} (h : Ext st st') {i a : Nat} (hv : valAt T bd st i = some a) : valAt T bd st' i = some a := by
 unfold valAt at hv ⊢
 obtain ⟨x, hx, hv⟩ := Option.bind_eq_some_iff.1 hv
 obtain ⟨e, he, hv⟩ := Option.bind_eq_some_iff.1 hv
 rw [hx, Option.bind_some, he, Option.bind_some]
 split at hv
 ·rename_i h1; rw [if_pos h1]; exact h.vars _ _ hv
 ·rename_i h1; rw [if_neg h1]; exact h.made _ _ hv
end
def Done (T : List Ent) (bd : Bd) (st : LSt) (x a : Nat) : Prop := ∃ (e : Ent) (ks : List Nat), T[x]? = some e ∧ st.ns[a]? = some { nodeOf e with args := ks.map fun b : Nat => (b : Int) } ∧ e.args.map (valAt T bd st) = ks.map some
structure LInv (T : List Ent) (bd : Bd) (st : LSt) (G : Nat → Prop) : Prop where
 made : ∀ x a, st.made x = some a → a < st.ns.length ∧ (∃ e : Ent, T[x]? = some e ∧ e.kind ≠ 1 ∧ e.kind ≠ 4) ∧ (G a ∨ Done T bd st x a)
 vars : ∀ s a, st.vars s = some a → st.ns[a]? = some varNode ∧ ∃ (x : Nat) (e : Ent), T[x]? = some e ∧ e.kind = 1 ∧ s = ⟨e.s.toArray⟩ ∧ bd.1 s = none
 all : ∀ a, a < st.ns.length → (∃ x, st.made x = some a) ∨ ∃ s, st.vars s = some a
 injM : ∀ x y a, st.made x = some a → st.made y = some a → x = y
 injV : ∀ s t a, st.vars s = some a → st.vars t = some a → s = t
 sep : ∀ x s a, st.made x = some a → st.vars s = some a → False
inductive Walk (ns : List Tre.Node) : Nat → Nat → Prop where
 | refl (a : Nat) : Walk ns a a
 | step {a b c : Nat} {n : Tre.Node} : Walk ns a b → ns[b]? = some n → (c : Int) ∈ n.args → Walk ns a c
theorem Walk.trans {ns : List Tre.Node} {a b c : Nat} (h : Walk ns a b) (k : Walk ns b c) : Walk ns a c := by
 induction k with
 | refl => exact h
 | step _ h1 h2 ih => exact .step ih h1 h2
theorem Walk.mono {ns ns' : List Tre.Node} (hn : ∀ (b : Nat) (n : Tre.Node), ns[b]? = some n → ∃ n' : Tre.Node, ns'[b]? = some n' ∧ ∀ x ∈ n.args, x ∈ n'.args) {a c : Nat} (h : Walk ns a c) : Walk ns' a c := by
 induction h with
 | refl => exact .refl _
 | step _ h1 h2 ih =>
  obtain ⟨n', h3, h4⟩ := hn _ _ h1
  exact .step ih h3 (h4 _ h2)
theorem Ext.walk {st st' : LSt} (h : Ext st st') {a c : Nat} (hw : Walk st.ns a c) : Walk st'.ns a c := hw.mono fun _ n hn => ⟨n, h.at_ hn, fun _ hx => hx⟩
section
variable {T : List Ent} {bd : Bd}
theorem Done.ext {st st' : LSt} (h : Ext st st') {x a : Nat} (hd : Done T bd st x a) : Done T bd st' x a := by
 obtain ⟨e, ks, h1, h2, h3⟩ := hd
 refine ⟨e, ks, h1, h.at_ h2, ?_⟩
 rw [← h3]
 refine List.map_congr_left fun j hj => ?_
 have : valAt T bd st j ∈ ks.map some := by rw [← h3]; exact List.mem_map.2 ⟨j, hj, rfl⟩
 obtain ⟨b, _, hb⟩ := List.mem_map.1 this
 rw [← hb, valAt_ext h hb.symm]
theorem LInv.start : LInv T bd ⟨fun _ => none, fun _ => none, []⟩ (fun _ => False) :=
 ⟨fun _ _ h => (by cases h), fun _ _ h => (by cases h), fun a h => absurd h (Nat.not_lt_zero a), fun _ _ _ h => (by cases h), fun _ _ _ h => (by cases h), fun _ _ _ h => (by cases h)⟩
theorem LInv.ltV {st : LSt} {G : Nat → Prop} (I : LInv T bd st G) {s : ByteArray} {a : Nat} (h : st.vars s = some a) : a < st.ns.length := (List.getElem?_eq_some_iff.1 (I.vars s a h).1).1
theorem LInv.newVar {st : LSt} {G : Nat → Prop} (I : LInv T bd st G) {x : Nat} {e : Ent} (he : T[x]? = some e) (h1 : e.kind = 1) (hb : bd.1 ⟨e.s.toArray⟩ = none) (hn : st.vars ⟨e.s.toArray⟩ = none) :
  LInv T bd ⟨upd st.vars ⟨e.s.toArray⟩ st.ns.length, st.made, st.ns ++ [varNode]⟩ G ∧ Ext st ⟨upd st.vars ⟨e.s.toArray⟩ st.ns.length, st.made, st.ns ++ [varNode]⟩ := by
 have X : Ext st ⟨upd st.vars ⟨e.s.toArray⟩ st.ns.length, st.made, st.ns ++ [varNode]⟩ := ⟨⟨[varNode], rfl⟩, fun s a h => by
  have : s ≠ ⟨e.s.toArray⟩ := fun q => by subst q; rw [hn] at h; cases h
  simp [upd, this, h], fun _ _ h => h⟩
 have vs : ∀ s a, upd st.vars ⟨e.s.toArray⟩ st.ns.length s = some a → (s = ⟨e.s.toArray⟩ ∧ a = st.ns.length) ∨ (st.vars s = some a ∧ a < st.ns.length) := fun s a h => by
  by_cases q : s = ⟨e.s.toArray⟩
  ·subst q; simp [upd] at h; exact .inl ⟨rfl, h.symm⟩
  ·simp [upd, q] at h; exact .inr ⟨h, I.ltV h⟩
 refine ⟨⟨fun y a h => ?_, fun s a h => ?_, fun a h => ?_, I.injM, fun s t a h k => ?_, fun y s a h k => ?_⟩, X⟩
 ·obtain ⟨h2, h3, h4⟩ := I.made y a h
  refine ⟨Nat.lt_of_lt_of_le h2 X.len, h3, h4.imp id fun d => d.ext X⟩
 ·rcases vs s a h with ⟨rfl, rfl⟩ | ⟨h, _⟩
  ·exact ⟨by simp, x, e, he, h1, rfl, hb⟩
  ·exact ⟨X.at_ (I.vars s a h).1, (I.vars s a h).2⟩
 ·simp at h
  by_cases q : a = st.ns.length
  ·subst q; exact .inr ⟨⟨e.s.toArray⟩, by simp [upd]⟩
  ·rcases I.all a (by omega) with ⟨y, hy⟩ | ⟨s, hs⟩
   ·exact .inl ⟨y, hy⟩
   ·exact .inr ⟨s, X.vars s a hs⟩
 ·rcases vs s a h with ⟨rfl, rfl⟩ | ⟨h, hl⟩ <;> rcases vs t _ k with ⟨rfl, hk⟩ | ⟨k, kl⟩
  ·rfl
  ·omega
  ·omega
  ·exact I.injV s t a h k
 ·rcases vs s a k with ⟨rfl, rfl⟩ | ⟨k, kl⟩
  ·have := (I.made y _ h).1; omega
  ·exact I.sep y s a h k
theorem LInv.newNode {st : LSt} {G : Nat → Prop} (I : LInv T bd st G) {x : Nat} {e : Ent} (he : T[x]? = some e) (h1 : e.kind ≠ 1) (h4 : e.kind ≠ 4) (hn : st.made x = none) :
  LInv T bd ⟨st.vars, upd st.made x st.ns.length, st.ns ++ [nodeOf e]⟩ (fun a => G a ∨ a = st.ns.length) ∧ Ext st ⟨st.vars, upd st.made x st.ns.length, st.ns ++ [nodeOf e]⟩ := by
 have X : Ext st ⟨st.vars, upd st.made x st.ns.length, st.ns ++ [nodeOf e]⟩ := ⟨⟨[nodeOf e], rfl⟩, fun _ _ h => h, fun y a h => by
  have : y ≠ x := fun q => by subst q; rw [hn] at h; cases h
  simp [upd, this, h]⟩
 have ms : ∀ y a, upd st.made x st.ns.length y = some a → (y = x ∧ a = st.ns.length) ∨ (st.made y = some a ∧ a < st.ns.length) := fun y a h => by
  by_cases q : y = x
  ·subst q; simp [upd] at h; exact .inl ⟨rfl, h.symm⟩
  ·simp [upd, q] at h; exact .inr ⟨h, (I.made y a h).1⟩
 refine ⟨⟨fun y a h => ?_, fun s a h => ?_, fun a h => ?_, fun y z a h k => ?_, I.injV, fun y s a h k => ?_⟩, X⟩
 ·rcases ms y a h with ⟨rfl, rfl⟩ | ⟨h, _⟩
  ·exact ⟨by simp, ⟨e, he, h1, h4⟩, .inl (.inr rfl)⟩
  ·obtain ⟨h2, h3, h4⟩ := I.made y a h
   exact ⟨Nat.lt_of_lt_of_le h2 X.len, h3, h4.imp .inl fun d => d.ext X⟩
 ·exact ⟨X.at_ (I.vars s a h).1, (I.vars s a h).2⟩
 ·simp at h
  by_cases q : a = st.ns.length
  ·subst q; exact .inl ⟨x, by simp [upd]⟩
  ·rcases I.all a (by omega) with ⟨y, hy⟩ | ⟨s, hs⟩
   ·exact .inl ⟨y, X.made y a hy⟩
   ·exact .inr ⟨s, hs⟩
 ·rcases ms y a h with ⟨rfl, rfl⟩ | ⟨h, hl⟩ <;> rcases ms z _ k with ⟨rfl, hk⟩ | ⟨k, kl⟩
  ·rfl
  ·omega
  ·omega
  ·exact I.injM y z a h k
 ·rcases ms y a h with ⟨rfl, rfl⟩ | ⟨h, hl⟩
  ·have := I.ltV k; omega
  ·exact I.sep y s a h k
theorem LInv.close {st : LSt} {G : Nat → Prop} {x p : Nat} {e : Ent} {l : List Nat} (hG : ¬ G p) (I : LInv T bd st (fun a => G a ∨ a = p)) (he : T[x]? = some e) (hx : st.made x = some p) (hl : e.args.map (valAt T bd st) = l.map some) :
  LInv T bd ⟨st.vars, st.made, st.ns.set p { nodeOf e with args := l.map fun a : Nat => (a : Int) }⟩ G := by
 have hp := (I.made x p hx).1
 refine ⟨fun y a h => ?_, fun s a h => ?_, fun a h => I.all a (by simpa using h), I.injM, I.injV, I.sep⟩
 ·obtain ⟨h2, h3, h4⟩ := I.made y a h
  refine ⟨by simpa using h2, h3, ?_⟩
  by_cases q : a = p
  ·subst q
   have := I.injM y x a h hx
   subst this
   exact .inr ⟨e, l, he, by simp [hp], hl⟩
  ·rcases h4 with (h4 | h4) | ⟨e', ks, d1, d2, d3⟩
   ·exact .inl h4
   ·exact absurd h4 q
   ·exact .inr ⟨e', ks, d1, by rw [List.getElem?_set_ne (fun z => q z.symm)]; exact d2, d3⟩
 ·have q : p ≠ a := fun q => by subst q; exact I.sep x s p hx h
  exact ⟨by rw [List.getElem?_set_ne q]; exact (I.vars s a h).1, (I.vars s a h).2⟩
theorem nodeOf_args (e : Ent) : (nodeOf e).args = [] := by unfold nodeOf; split <;> rfl
theorem node1_inv : ∀ (K i : Nat) (st st' : LSt) (a : Nat) (G : Nat → Prop), (∀ c, G c → c < st.ns.length) → node1 T bd K i st = some (a, st') → LInv T bd st G →
  LInv T bd st' G ∧ Ext st st' ∧ valAt T bd st' i = some a ∧ a < st'.ns.length ∧ ∀ c, st.ns.length ≤ c → c < st'.ns.length → Walk st'.ns a c := by
 intro K
 induction K with
 | zero => intro i st st' a G _ h; rw [node1] at h; cases h
 | succ K ih =>
  intro i st st' a G hG h I
  rw [node1] at h
  obtain ⟨x, hx, h⟩ := Option.bind_eq_some_iff.1 h
  obtain ⟨e, he, h⟩ := Option.bind_eq_some_iff.1 h
  obtain ⟨e', he', k4, kb⟩ := follow_is hx
  rw [he] at he'
  cases he'
  have val : ∀ st : LSt, valAt T bd st i = if e.kind = 1 then st.vars ⟨e.s.toArray⟩ else st.made x := fun st => by
   unfold valAt; rw [hx, Option.bind_some, he, Option.bind_some]
  by_cases h1 : e.kind = 1
  ·rw [if_pos h1] at h
   cases hv : st.vars ⟨e.s.toArray⟩ with
   | some b =>
    rw [hv] at h
    cases h
    exact ⟨I, Ext.refl _, by rw [val, if_pos h1, hv], I.ltV hv, fun c h1 h2 => by omega⟩
   | none =>
    rw [hv] at h
    cases h
    have k := I.newVar he h1 (kb h1) hv
    refine ⟨k.1, k.2, by rw [val, if_pos h1]; simp [upd], by simp, fun c h1 h2 => ?_⟩
    simp at h2
    have : c = st.ns.length := by omega
    subst this
    exact .refl _
  ·rw [if_neg h1] at h
   cases hm : st.made x with
   | some b =>
    rw [hm] at h
    cases h
    exact ⟨I, Ext.refl _, by rw [val, if_neg h1, hm], (I.made x _ hm).1, fun c h1 h2 => by omega⟩
   | none =>
    rw [hm] at h
    obtain ⟨⟨l, st2⟩, hk, h⟩ := Option.map_eq_some_iff.1 h
    cases h
    have k1 := I.newNode he h1 k4 hm
    generalize hst1 : (⟨st.vars, upd st.made x st.ns.length, st.ns ++ [nodeOf e]⟩ : LSt) = st1 at hk k1
    have key : ∀ (L l0 l2 : List Nat) (s1 s2 : LSt), (∀ c, (G c ∨ c = st.ns.length) → c < s1.ns.length) → kidsF (node1 T bd K) L l0 s1 = some (l2, s2) → LInv T bd s1 (fun a => G a ∨ a = st.ns.length) →
      LInv T bd s2 (fun a => G a ∨ a = st.ns.length) ∧ Ext s1 s2 ∧ (∃ bs, l2 = l0 ++ bs ∧ L.map (valAt T bd s2) = bs.map some ∧ (∀ b ∈ bs, b < s2.ns.length) ∧ ∀ c, s1.ns.length ≤ c → c < s2.ns.length → ∃ b ∈ bs, Walk s2.ns b c) := by
     intro L
     induction L with
     | nil =>
      intro l0 l2 s1 s2 _ h I
      rw [kidsF] at h
      cases h
      exact ⟨I, Ext.refl _, [], by simp, by simp, by simp, fun c h1 h2 => by omega⟩
     | cons j L ihL =>
      intro l0 l2 s1 s2 hg h I
      rw [kidsF] at h
      obtain ⟨⟨b, s3⟩, h3, h⟩ := Option.bind_eq_some_iff.1 h
      obtain ⟨i1, x1, v1, lt1, w1⟩ := ih j s1 s3 b _ hg h3 I
      obtain ⟨i2, x2, bs, e2, v2, lt2, w2⟩ := ihL (l0 ++ [b]) l2 s3 s2 (fun c hc => Nat.lt_of_lt_of_le (hg c hc) x1.len) h i1
      refine ⟨i2, x1.trans x2, b :: bs, by rw [e2]; simp, by rw [List.map_cons, v2, valAt_ext x2 v1]; rfl, fun c hc => ?_, fun c h1 h2 => ?_⟩
      ·rcases List.mem_cons.1 hc with rfl | hc
       ·exact Nat.lt_of_lt_of_le lt1 x2.len
       ·exact lt2 c hc
      ·by_cases hc : c < s3.ns.length
       ·exact ⟨b, by simp, x2.walk (w1 c h1 hc)⟩
       ·obtain ⟨b', hb', hw⟩ := w2 c (by omega) h2
        exact ⟨b', by simp [hb'], hw⟩
    have hl1 : st1.ns.length = st.ns.length + 1 := by rw [← hst1]; simp
    obtain ⟨i2, x2, bs, e2, v2, lt2, w2⟩ := key e.args [] l st1 st2 (fun c hc => by
     rcases hc with hc | hc
     ·have := hG c hc; omega
     ·omega) hk k1.1
    rw [List.nil_append] at e2
    subst e2
    have hmx : st2.made x = some st.ns.length := x2.made x _ (by rw [← hst1]; simp [upd])
    have hat : st2.ns[st.ns.length]? = some (nodeOf e) := x2.at_ (by rw [← hst1]; simp)
    have hlt := (List.getElem?_eq_some_iff.1 hat).1
    have i3 := i2.close (fun hg => by have := hG _ hg; omega) he hmx v2
    have x3 : Ext st ⟨st2.vars, st2.made, st2.ns.set st.ns.length { nodeOf e with args := l.map fun a : Nat => (a : Int) }⟩ := by
     have x := k1.2.trans x2
     refine ⟨?_, x.vars, x.made⟩
     obtain ⟨m, hm⟩ := x.ns
     rw [hm] at hat ⊢
     rw [List.set_append_right _ _ (by omega)]
     exact ⟨_, rfl⟩
    refine ⟨i3, x3, by rw [val, if_neg h1]; exact hmx, by simpa using hlt, fun c h1 h2 => ?_⟩
    have mono : ∀ (b : Nat) (n : Tre.Node), st2.ns[b]? = some n → ∃ n' : Tre.Node, (st2.ns.set st.ns.length { nodeOf e with args := l.map fun a : Nat => (a : Int) })[b]? = some n' ∧ ∀ x ∈ n.args, x ∈ n'.args := fun b n hn => by
     by_cases q : st.ns.length = b
     ·subst q
      rw [hat] at hn
      cases hn
      exact ⟨_, by simp [hlt]; rfl, fun x hx => by rw [nodeOf_args] at hx; simp at hx⟩
     ·exact ⟨n, by rw [List.getElem?_set_ne q]; exact hn, fun _ h => h⟩
    by_cases q : c = st.ns.length
    ·subst q; exact .refl _
    ·obtain ⟨b, hb, hw⟩ := w2 c (by omega) (by simpa using h2)
     refine Walk.trans (.step (.refl _) (n := { nodeOf e with args := l.map fun a : Nat => (a : Int) }) (by simp [hlt]) (List.mem_map.2 ⟨b, hb, rfl⟩)) (hw.mono mono)
def unmade (T : List Ent) (st : LSt) : Nat := (List.range T.length).countP fun x => (st.made x).isNone
theorem unmade_ext {st st' : LSt} (h : Ext st st') : unmade T st' ≤ unmade T st := by
 unfold unmade
 refine List.countP_mono_left fun x _ hx => ?_
 cases hm : st.made x with
 | none => rfl
 | some a => rw [h.made x a hm] at hx; cases hx
theorem unmade_new {st : LSt} {x p : Nat} {v : ByteArray → Option Nat} {ns : List Tre.Node} (hx : x < T.length) (hm : st.made x = none) : unmade T ⟨v, upd st.made x p, ns⟩ < unmade T st := by
 unfold unmade
 refine countP_lt (x := x) (List.mem_range.2 hx) (by simp [upd]) (by rw [hm]; rfl) fun y _ hy => ?_
 by_cases q : y = x
 ·subst q; simp [upd] at hy
 ·simpa [upd, q] using hy
theorem node1_total (hf : ∀ i, i < T.length → ∃ r, follow1 T bd.1 (2 * bd.2 + 2) i = some r) (hT : Rises T) : ∀ (K i : Nat) (st : LSt) (G : Nat → Prop), (∀ c, G c → c < st.ns.length) → LInv T bd st G → i < T.length → unmade T st < K → ∃ a st', node1 T bd K i st = some (a, st') := by
 intro K
 induction K with
 | zero => intro i st G _ _ _ h; omega
 | succ K ih =>
  intro i st G hG I hi hu
  obtain ⟨x, hx⟩ := hf i hi
  obtain ⟨e, he, k4, kb⟩ := follow_is hx
  rw [node1, hx, Option.bind_some, he, Option.bind_some]
  by_cases h1 : e.kind = 1
  ·rw [if_pos h1]
   cases st.vars ⟨e.s.toArray⟩ <;> exact ⟨_, _, rfl⟩
  ·rw [if_neg h1]
   cases hm : st.made x with
   | some b => exact ⟨_, _, rfl⟩
   | none =>
    have hxl := (List.getElem?_eq_some_iff.1 he).1
    have k1 := I.newNode he h1 k4 hm
    have hu1 := unmade_new (st := st) (p := st.ns.length) (v := st.vars) (ns := st.ns ++ [nodeOf e]) hxl hm
    have hl1 : (⟨st.vars, upd st.made x st.ns.length, st.ns ++ [nodeOf e]⟩ : LSt).ns.length = st.ns.length + 1 := by simp
    generalize (⟨st.vars, upd st.made x st.ns.length, st.ns ++ [nodeOf e]⟩ : LSt) = st1 at k1 hu1 hl1
    have key : ∀ (L l0 : List Nat) (s1 : LSt), (∀ j ∈ L, j < T.length) → (∀ c, (G c ∨ c = st.ns.length) → c < s1.ns.length) → LInv T bd s1 (fun a => G a ∨ a = st.ns.length) → unmade T s1 < K → ∃ p, kidsF (node1 T bd K) L l0 s1 = some p := by
     intro L
     induction L with
     | nil => intro l0 s1 _ _ _ _; exact ⟨_, by rw [kidsF]⟩
     | cons j L ihL =>
      intro l0 s1 hL hg I1 hu2
      obtain ⟨b, s3, h3⟩ := ih j s1 _ hg I1 (hL j (by simp)) hu2
      obtain ⟨i3, x3, _⟩ := node1_inv K j s1 s3 b _ hg h3 I1
      obtain ⟨p, hp⟩ := ihL (l0 ++ [b]) s3 (fun j hj => hL j (by simp [hj])) (fun c hc => Nat.lt_of_lt_of_le (hg c hc) x3.len) i3 (Nat.lt_of_le_of_lt (unmade_ext x3) hu2)
      exact ⟨p, by rw [kidsF, h3, Option.bind_some]; exact hp⟩
    obtain ⟨p, hp⟩ := key e.args [] st1 (fun j hj => (hT x e he j hj).2) (fun c hc => by
     rcases hc with hc | hc
     ·have := hG c hc; omega
     ·omega) k1.1 (by omega)
    exact ⟨_, _, by rw [hp, zqd]⟩
end
structure Loaded (T : List Ent) (bd : Bd) (a : Nat) (st : LSt) : Prop where
 inv : LInv T bd st (fun _ => False)
 root : valAt T bd st 0 = some a
 lt : a < st.ns.length
 reach : ∀ c, c < st.ns.length → Walk st.ns a c
theorem loaded_of {T : List Ent} {bd : Bd} {K a : Nat} {st : LSt} (h : node1 T bd K 0 ⟨fun _ => none, fun _ => none, []⟩ = some (a, st)) : Loaded T bd a st := by
 obtain ⟨h1, _, h3, h4, h5⟩ := node1_inv K 0 _ st a (fun _ => False) (fun _ h => h.elim) h LInv.start
 exact ⟨h1, h3, h4, fun c hc => h5 c (Nat.zero_le _) hc⟩
end Go.Tre
