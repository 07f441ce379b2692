/- A table of rows of numbers, each row of its own block: who points to whom. What a going back keeps; plain. gen.general's visit. gen.general. Rows of numbers whose contents are left open: what is written there changes nothing that is said. -/
import Derived.Test.YtlkfhbmjemjohaaGreatDoorB19
import Derived.Deep.DeepCutAuto
import Derived.Laws.EntriesVeiled
import Derived.Test.YtlkfhbmjemjohaaGreatDoorB07
import Derived.Test.YtlkfhbmjemjohaaGreatDoorB08
set_option linter.unusedVariables false
namespace Go.Tre
open Go.RowKit
structure VL (g : Tre.Graph) (cont : Nat → List Nat) (V s V' : List Nat) : Prop where
 sub : ∀ y ∈ V, y ∈ V'
 has : ∀ x ∈ s, x ∈ V'
 nod : V'.Nodup
 lt : ∀ y ∈ V', y < g.ns.length
 closed : ∀ y ∈ V', y ∉ V → ∀ b ∈ cont y, b ∈ V'
 from_ : ∀ y ∈ V', y ∉ V → ∃ x ∈ s, Rch g y x
section
variable {g : Tre.Graph} {cont : Nat → List Nat} {V V1 V2 s : List Nat} {x : Nat}
theorem VL.nil (hn : V.Nodup) (hl : ∀ y ∈ V, y < g.ns.length) : VL g cont V [] V := ⟨fun _ h => h, by simp, hn, hl, fun y h h' => absurd h h', fun y h h' => absurd h h'⟩
theorem VL.skip (hn : V.Nodup) (hl : ∀ y ∈ V, y < g.ns.length) (hx : x ∈ V) : VL g cont V [x] V := ⟨fun _ h => h, fun y hy => by simp at hy; rw [hy]; exact hx, hn, hl, fun y h h' => absurd h h', fun y h h' => absurd h h'⟩
theorem VL.snoc (h : VL g cont V s V1) (k : VL g cont V1 [x] V2) : VL g cont V (s ++ [x]) V2 := by
 refine ⟨fun y hy => k.sub y (h.sub y hy), fun y hy => ?_, k.nod, k.lt, fun y hy hn b hb => ?_, fun y hy hn => ?_⟩
 ·rcases List.mem_append.1 hy with hy | hy
  ·exact k.sub y (h.has y hy)
  ·exact k.has y hy
 ·by_cases h1 : y ∈ V1
  ·exact k.sub b (h.closed y h1 hn b hb)
  ·exact k.closed y hy h1 b hb
 ·by_cases h1 : y ∈ V1
  ·obtain ⟨z, hz, r⟩ := h.from_ y h1 hn
   exact ⟨z, by simp [hz], r⟩
  ·obtain ⟨z, hz, r⟩ := k.from_ y hy h1
   exact ⟨z, by simp at hz; simp [hz], r⟩
theorem VL.visit (hc : ∀ b ∈ cont x, x ∈ g.kids b) (k : VL g cont (V ++ [x]) (cont x) V2) : VL g cont V [x] V2 := by
 refine ⟨fun y hy => k.sub y (by simp [hy]), fun y hy => by simp at hy; rw [hy]; exact k.sub x (by simp), k.nod, k.lt, fun y hy hn b hb => ?_, fun y hy hn => ?_⟩
 ·by_cases e : y = x
  ·subst e; exact k.has b hb
  ·exact k.closed y hy (by simp [hn, e]) b hb
 ·by_cases e : y = x
  ·exact ⟨x, by simp, by rw [e]; exact .refl⟩
  ·obtain ⟨b, hb, r⟩ := k.from_ y hy (by simp [hn, e])
   exact ⟨x, by simp, r.step (hc b hb)⟩
theorem VL.done (og : g.Ok) (hc : ∀ y, y < g.ns.length → ∀ b, b < g.ns.length → y ∈ g.kids b → b ∈ cont y) {gl : List Nat} (h : VL g cont [] gl V) (i : Nat) (hi : i < g.ns.length) : (decide (i ∈ V)) = g.leadB gl i := by
 rw [Bool.eq_iff_iff, decide_eq_true_eq, Graph.leadB_iff og hi]
 constructor
 ·intro hv
  obtain ⟨k, hk, r⟩ := h.from_ i hv (by simp)
  exact ⟨k, hk, r⟩
 ·rintro ⟨k, hk, r⟩
  have back : ∀ a b, Rch g a b → a < g.ns.length → b ∈ V → a ∈ V := fun a b r ha => by
   induction r with
   | refl => exact id
   | step hab hc' ih => intro hV; exact ih (h.closed _ hV (by simp) _ (hc _ (h.lt _ hV) _ (hab.lt og ha) hc'))
  exact back i k r hi (h.has k hk)
theorem nodup_lt_len {n : Nat} : ∀ {V : List Nat}, V.Nodup → (∀ y ∈ V, y < n) → V.length ≤ n := by
 intro V hn hl
 have sub : ∀ (V U : List Nat), V.Nodup → (∀ p ∈ V, p ∈ U) → V.length ≤ U.length := by
  intro V
  induction V with
  | nil => intro U _ _; simp
  | cons p V ih =>
   intro U hn hs
   have h1 := List.nodup_cons.1 hn
   have := ih (U.erase p) h1.2 (fun q hq => (List.mem_erase_of_ne (fun e => h1.1 (by rw [← e]; exact hq))).2 (hs q (by simp [hq])))
   rw [List.length_erase_of_mem (hs p (by simp))] at this
   have hp := List.length_pos_of_mem (hs p (by simp))
   simp only [List.length_cons]
   omega
 have := sub V (List.range n) hn (fun p hp => List.mem_range.2 (hl p hp))
 rwa [List.length_range] at this
theorem nodup_snoc (hn : V.Nodup) (hx : x ∉ V) : (V ++ [x]).Nodup := List.nodup_append.2 ⟨hn, by simp, fun p hp q hq e => by simp at hq; subst hq; subst e; exact hx hp⟩
theorem lt_snoc {n : Nat} (hl : ∀ y ∈ V, y < n) (hx : x < n) : ∀ y ∈ V ++ [x], y < n := fun y hy => by
 rcases List.mem_append.1 hy with h | h
 ·exact hl y h
 ·simp at h; rw [h]; exact hx
end
end Go.Tre
namespace Go.Proofs.YtlkfhbmjemjohaaGreatDoor.gr
open Go.RowKit Go.Shelf Go.Maps Go.Tre lex
def backR (l : List (Value × List Nat)) : Res where
 own b := ∃ p ∈ l, p.1.ownBlock = some b
 P w := (∀ p ∈ l, w.ownsRow 0 3 1 p.1 p.2.length (p.2.map rk)) ∧ ∀ (i j : Nat) (p q : Value × List Nat), i ≠ j → l[i]? = some p → l[j]? = some q → ∀ b, p.1.ownBlock = some b → q.1.ownBlock ≠ some b
 stable w w' h hs := ⟨fun p hp => (rowR 3 1 p.1 p.2.length (p.2.map rk)).stable w w' (h.1 p hp) (fun b hb => hs b ⟨p, hp, hb⟩), h.2⟩
 has w h b hb := by
  obtain ⟨p, hp, hb⟩ := hb
  exact (rowR 3 1 p.1 p.2.length (p.2.map rk)).has w (h.1 p hp) b hb
theorem backR_start (w : World) (n : Nat) : (backR (List.replicate n (.slice none 0 0, []))).P w :=
 ⟨fun p hp => by rw [List.eq_of_mem_replicate hp]; exact World.ownsRow_nil w _ _ _, fun i j p q _ hp _ b hb => by
  have := List.eq_of_mem_replicate (List.mem_of_getElem? hp)
  rw [this] at hb; cases hb⟩
theorem _root_.Go.Tre.Mem.addBack {w0 w : World} {rs : List Res} (h : Mem w0 w rs) (n : Nat) : Mem w0 w (backR (List.replicate n (.slice none 0 0, [])) :: rs) :=
 h.add ⟨rfl, rfl, rfl, Nat.le_refl _, fun _ _ _ => rfl⟩ _ (backR_start w n) (fun b hb => by
  obtain ⟨p, hp, hb⟩ := hb
  rw [List.eq_of_mem_replicate hp] at hb; cases hb)
theorem _root_.Go.Tre.Mem.backRow {w0 w : World} {rs : List Res} {l : List (Value × List Nat)} {j : Nat} {v : Value} {xs : List Nat} (h : Mem w0 w rs) (i : Nat) (hi : rs[i]? = some (backR l)) (hj : l[j]? = some (v, xs)) : w.ownsRow 0 3 1 v xs.length (xs.map rk) :=
 (h.at_ i hi).1 (v, xs) (List.mem_of_getElem? hj)
theorem _root_.Go.Tre.Mem.backSet {w0 w w' : World} {rs : List Res} {l : List (Value × List Nat)} {j : Nat} {v v' : Value} {xs xs' : List Nat} (h : Mem w0 w rs) (i : Nat) (hi : rs[i]? = some (backR l)) (hj : l[j]? = some (v, xs))
  (hg : w.grownBy w' v.ownBlock) (hown : w'.ownsRow 0 3 1 v' xs'.length (xs'.map rk)) (hat : v'.ownBlock = v.ownBlock ∨ v'.ownBlock = some w.heap.size) : Mem w0 w' (rs.set i (backR (l.set j (v', xs')))) := by
 have hP := h.at_ i hi
 have hmem := List.mem_of_getElem? hj
 have hjl := (List.getElem?_eq_some_iff.1 hj).1
 have hlt : ∀ p ∈ l, ∀ b, p.1.ownBlock = some b → b < w.heap.size := fun p hp b hb => (rowR 3 1 p.1 p.2.length (p.2.map rk)).has w (hP.1 p hp) b hb
 have get : ∀ m p, (l.set j (v', xs'))[m]? = some p → (m = j ∧ p = (v', xs')) ∨ (m ≠ j ∧ l[m]? = some p) := fun m p hm => by
  rw [List.getElem?_set] at hm
  split at hm
  ·rename_i e
   subst e
   first | exact .inl ⟨rfl, (Option.some.inj hm).symm⟩ | (rw [if_pos hjl] at hm; exact .inl ⟨rfl, (Option.some.inj hm).symm⟩)
  ·rename_i e
   exact .inr ⟨fun e' => e e'.symm, hm⟩
 refine h.set_row i hi hg (fun k e => ⟨_, hmem, e⟩) _ ⟨fun p hp => ?_, fun m k p q hmk hm hk b hb => ?_⟩ (fun b hb => ?_)
 ·obtain ⟨m, hm⟩ := List.getElem?_of_mem hp
  rcases get m p hm with ⟨_, rfl⟩ | ⟨hne, hm'⟩
  ·exact hown
  ·have hpm := List.mem_of_getElem? hm'
   refine (rowR 3 1 p.1 p.2.length (p.2.map rk)).stable w w' (hP.1 p hpm) (fun b hb => hg.block b (hlt p hpm b hb) (fun e => ?_))
   exact hP.2 m j p (v, xs) hne hm' hj b hb e.symm
 ·rcases get m p hm with ⟨rfl, rfl⟩ | ⟨hne, hm'⟩
  ·rcases get k q hk with ⟨rfl, rfl⟩ | ⟨hnk, hk'⟩
   ·exact absurd rfl hmk
   ·rcases hat with e | e
    ·exact hP.2 m k (v, xs) q hmk hj hk' b (e.symm.trans hb)
    ·have hb' : v'.ownBlock = some b := hb
     rw [e] at hb'
     cases hb'
     intro hq
     have := hlt q (List.mem_of_getElem? hk') _ hq
     omega
  ·rcases get k q hk with ⟨rfl, rfl⟩ | ⟨hnk, hk'⟩
   ·have hlb := hlt p (List.mem_of_getElem? hm') b hb
    rcases hat with e | e
    ·intro hq
     exact hP.2 m k p (v, xs) hmk hm' hj b hb (e.symm.trans hq)
    ·intro hq
     have hq' : v'.ownBlock = some b := hq
     rw [e] at hq'
     cases hq'
     omega
   ·exact hP.2 m k p q hmk hm' hk' b hb
 ·obtain ⟨p, hp, hb⟩ := hb
  obtain ⟨m, hm⟩ := List.getElem?_of_mem hp
  rcases get m p hm with ⟨_, rfl⟩ | ⟨_, hm'⟩
  ·rcases hat with e | e
   ·exact .inl ⟨_, hmem, e.symm.trans hb⟩
   ·right
    have hb' : v'.ownBlock = some b := hb
    rw [e] at hb'
    cases hb'
    exact Nat.le_refl _
  ·exact .inl ⟨p, List.mem_of_getElem? hm', hb⟩
end Go.Proofs.YtlkfhbmjemjohaaGreatDoor.gr
namespace Go.Proofs.YtlkfhbmjemjohaaGreatDoor.gr
open Go.RowKit Go.Shelf Go.Maps Go.Tre lex
abbrev visitCaps (bo b5 b11 : Nat) : Array Value := #[.pointer (some ⟨bo, 0, none⟩), .pointer (some ⟨b5, 0, none⟩), .pointer (some ⟨b11, 0, none⟩)]

set_option maxRecDepth 100000 in
set_option maxHeartbeats 8000000 in
theorem visitG (g : Tre.Graph) (w0 : World) (bm bt bo b5 b11 : Nat) (l : List (Value × List Nat)) (cont : Nat → List Nat) (hl : l.length = g.ns.length) (hc : ∀ y p, l[y]? = some p → p.2 = cont y) (hk : ∀ y, y < g.ns.length → ∀ b ∈ cont y, b < g.ns.length ∧ y ∈ g.kids b) (hsz : ∀ y, (cont y).length ≤ 4194304) :
  ∀ (fuel : Nat) (x : Nat) (V : List Nat) (w : World) (rs : List Res), g.ns.length - V.length ≤ fuel → x < g.ns.length → V.Nodup → (∀ y ∈ V, y < g.ns.length) →
  Mem w0 w (rowR 4 1 (.slice (some ⟨bm, 0, none⟩) g.ns.length g.ns.length) g.ns.length (metL g V) :: backR l :: rowR 31 1 (.slice (some ⟨bt, 0, none⟩) g.ns.length g.ns.length) g.ns.length (l.map (·.1)) ::
   cellsR bo 49 #[.slice (some ⟨bm, 0, none⟩) g.ns.length g.ns.length] :: cellsR b5 85 #[.slice (some ⟨bt, 0, none⟩) g.ns.length g.ns.length] :: cellsR b11 86 #[.func (.func 38) #[] (visitCaps bo b5 b11)] :: rs) →
  Calls Tryz.prog 38 (#[.int .i64 (x : Int)] ++ visitCaps bo b5 b11) w fun e w' => ∃ v, e = .returned v ∧ ∃ V', VL g cont V [x] V' ∧
   Mem w0 w' (rowR 4 1 (.slice (some ⟨bm, 0, none⟩) g.ns.length g.ns.length) g.ns.length (metL g V') :: backR l :: rowR 31 1 (.slice (some ⟨bt, 0, none⟩) g.ns.length g.ns.length) g.ns.length (l.map (·.1)) ::
   cellsR bo 49 #[.slice (some ⟨bm, 0, none⟩) g.ns.length g.ns.length] :: cellsR b5 85 #[.slice (some ⟨bt, 0, none⟩) g.ns.length g.ns.length] :: cellsR b11 86 #[.func (.func 38) #[] (visitCaps bo b5 b11)] :: rs) := by
 have HLL := Tre.hid hl
 have HC := Tre.hid hc
 have HK := Tre.hid hk
 have HSZ := Tre.hid hsz
 clear hl hc hk hsz
 intro fuel
 induction fuel with
 | zero =>
  intro x V w rs hb hx hnd hlt hM
  have hin : x ∈ V := by
   by_cases h : x ∈ V
   ·exact h
   ·have := nodup_lt_len (nodup_snoc hnd h) (lt_snoc hlt hx)
    simp at this
    omega
  have m0 := hM.cellAt 0 rfl x (u := .bool true) (by rw [metL, List.getElem?_map, List.getElem?_range hx]; simp [hin])
  have c0 := hM.cell 3 rfl 0 rfl
  have i1 : (0 : Int) ≤ x := by omega
  have i2 : (x : Int) < g.ns.length := by omega
  have HM1 := Tre.hid hM
  have HV := Tre.hid (VL.skip (cont := cont) hnd hlt hin)
  clear hM hin hnd hlt
  go_enter Tryz.func38, Tryz.ntmps38
  go_wp2_with fail
  refine bodyPost_ret (v := .tuple #[]) (by simp [results, Tryz.results38, go_sem]) rfl ⟨_, rfl, V, HV.out, HM1.out⟩
 | succ fuel ih =>
  intro x V w rs hb hx hnd hlt hM
  by_cases hin : x ∈ V
  ·have m0 := hM.cellAt 0 rfl x (u := .bool true) (by rw [metL, List.getElem?_map, List.getElem?_range hx]; simp [hin])
   have c0 := hM.cell 3 rfl 0 rfl
   have i1 : (0 : Int) ≤ x := by omega
   have i2 : (x : Int) < g.ns.length := by omega
   have HM1 := Tre.hid hM
   have HV := Tre.hid (VL.skip (cont := cont) hnd hlt hin)
   clear hM hin hnd hlt ih
   go_enter Tryz.func38, Tryz.ntmps38
   go_wp2_with fail
   refine bodyPost_ret (v := .tuple #[]) (by simp [results, Tryz.results38, go_sem]) rfl ⟨_, rfl, V, HV.out, HM1.out⟩
  ·have IH := Tre.hid ih
   have m0 := hM.cellAt 0 rfl x (u := .bool false) (by rw [metL, List.getElem?_map, List.getElem?_range hx]; simp [hin])
   have mf := hM.freeAt 0 rfl x
   have c0 : w.cell? ⟨bo, 0, none⟩ = some (.slice (some ⟨bm, 0, none⟩) g.ns.length g.ns.length) := hM.cell 3 rfl 0 rfl
   have M2 := hM.setRow 0 rfl x (.bool true)
   have e2 : (metL g V).set x (.bool true) = metL g (V ++ [x]) := (metL_set g V x).symm
   rw [e2] at M2
   have c5 : (w.setCell ⟨bm, x, none⟩ (.bool true)).cell? ⟨b5, 0, none⟩ = some (.slice (some ⟨bt, 0, none⟩) g.ns.length g.ns.length) := M2.cell 4 rfl 0 rfl
   obtain ⟨vx, hvx⟩ : ∃ vx, l[x]? = some (vx, cont x) := by
    have hxl : x < l.length := by rw [HLL.out]; exact hx
    have h := HC.out x _ (List.getElem?_eq_getElem hxl)
    exact ⟨l[x].1, by rw [List.getElem?_eq_getElem hxl, ← h]⟩
   have t0 := M2.cellAt 2 rfl x (u := vx) (by rw [List.getElem?_map, hvx]; rfl)
   have hrow := M2.backRow 1 rfl hvx
   obtain ⟨ax, cx, rfl, hcx, hrd⟩ := row_read hrow
   have HVX := Tre.hid hvx
   have hsx := HSZ.out x
   have HKX := Tre.hid (HK.out x hx)
   have i1 : (0 : Int) ≤ x := by omega
   have i2 : (x : Int) < g.ns.length := by omega
   have hvl := nodup_lt_len (nodup_snoc hnd hin) (lt_snoc hlt hx)
   have HN2 := Tre.hid (nodup_snoc hnd hin)
   have HL2 := Tre.hid (lt_snoc hlt hx)
   have HM2 := Tre.hid M2
   rw [List.length_append, List.length_singleton] at hvl
   clear hM M2 e2 hin hnd hlt ih hvx hrow hrd
   go_enter Tryz.func38, Tryz.ntmps38
   go_wp2_with fail
   go_loopw [19] (fun v19 wi => ∃ (i : Nat) (V1 : List Nat), i ≤ (cont x).length ∧ v19 = .int .i64 i ∧ Hid (VL g cont (V ++ [x]) ((cont x).take i) V1) ∧
     Hid (Mem w0 wi (rowR 4 1 (.slice (some ⟨bm, 0, none⟩) g.ns.length g.ns.length) g.ns.length (metL g V1) :: backR l :: rowR 31 1 (.slice (some ⟨bt, 0, none⟩) g.ns.length g.ns.length) g.ns.length (l.map (·.1)) ::
   cellsR bo 49 #[.slice (some ⟨bm, 0, none⟩) g.ns.length g.ns.length] :: cellsR b5 85 #[.slice (some ⟨bt, 0, none⟩) g.ns.length g.ns.length] :: cellsR b11 86 #[.func (.func 38) #[] (visitCaps bo b5 b11)] :: rs)))
    (fun v19 _ => (cont x).length - (intOf v19).toNat)
   case atStart => exact ⟨0, V ++ [x], Nat.zero_le _, rfl, VL.nil HN2.out HL2.out, HM2.out⟩
   case round =>
    obtain ⟨i, V1, hi, rfl, hVL, hI⟩ := hrel
    by_cases hil : i < (cont x).length
    ·have hyk := HKX.out _ (List.getElem_mem hil)
     have HTS : Hid ((cont x).take (i + 1) = (cont x).take i ++ [(cont x)[i]]) := take_snoc_n hil
     have hgy : (cont x)[i]? = some (cont x)[i] := List.getElem?_eq_getElem hil
     obtain ⟨a', c', e', _, hrd⟩ := row_read (hI.out.backRow 1 rfl HVX.out)
     cases e'
     obtain ⟨bx, ox, rfl, hcl⟩ := hrd.at_ i (rk (cont x)[i]) (by rw [List.getElem?_map, hgy]; rfl)
     have hcl2 : wr.cell? ⟨bx, ox + i, none⟩ = some (.int .i64 ((cont x)[i] : Int)) := hcl
     generalize (cont x)[i] = y at *
     have c11 : wr.cell? ⟨b11, 0, none⟩ = some (.func (.func 38) #[] (visitCaps bo b5 b11)) := hI.out.cell 5 rfl 0 rfl
     have hbud : g.ns.length - V1.length ≤ fuel := by
      have h1 : (V ++ [x]).length ≤ V1.length := by
       have sub : ∀ (A U : List Nat), A.Nodup → (∀ p ∈ A, p ∈ U) → A.length ≤ U.length := by
        intro A
        induction A with
        | nil => intro U _ _; simp
        | cons p A ih =>
         intro U hn hs
         have h1 := List.nodup_cons.1 hn
         have := ih (U.erase p) h1.2 (fun q hq => (List.mem_erase_of_ne (fun e => h1.1 (by rw [← e]; exact hq))).2 (hs q (by simp [hq])))
         rw [List.length_erase_of_mem (hs p (by simp))] at this
         have hp := List.length_pos_of_mem (hs p (by simp))
         simp only [List.length_cons]
         omega
       exact sub _ _ HN2.out hVL.out.sub
      rw [List.length_append, List.length_singleton] at h1
      omega
     have CV := IH.out y V1 wr rs hbud hyk.1 hVL.out.nod hVL.out.lt hI.out
     have HCV := Tre.hid CV
     have l1 : (0 : Int) ≤ i := by omega
     have l2 : (i : Int) < (cont x).length := by omega
     clear hcl CV hgy hrd hyk
     go_wp2_with fail
     refine HCV.out.mono ?_
     rintro e w5 ⟨v5, rfl, V2, hv2, m5⟩
     have HV2 := Tre.hid (hVL.out.snoc hv2)
     rw [← HTS.out] at HV2
     have HM6 := Tre.hid m5
     clear m5 hv2
     go_wp2_with fail
     go_roundw
     case rel => exact ⟨i + 1, V2, by omega, by go_num, HV2.out, HM6.out⟩
     case measure => simp [intOf]; omega
    ·have et : (cont x).take i = cont x := List.take_of_length_le (by omega)
     have hV' := hVL.out
     rw [et] at hV'
     have HVF := Tre.hid (VL.visit (fun b hb => (HKX.out b hb).2) hV')
     clear et hV'
     go_wp2_with fail
     go_end0
     exact ⟨_, rfl, V1, HVF.out, hI.out⟩
end Go.Proofs.YtlkfhbmjemjohaaGreatDoor.gr
namespace Go.Tre
structure BK (g : Tre.Graph) (l : List (Value × List Nat)) (i k : Nat) : Prop where
 len : l.length = g.ns.length
 mem : ∀ (y : Nat) (p : Value × List Nat), l[y]? = some p → ∀ x, x ∈ p.2 ↔ (x < i ∧ y ∈ g.kids x) ∨ (x = i ∧ y ∈ (g.kids i).take k)
 size : ∀ p ∈ l, p.2.length ≤ ((List.range i).map g.deg).sum + k
theorem BK.start (g : Tre.Graph) : BK g (List.replicate g.ns.length (.slice none 0 0, [])) 0 0 :=
 ⟨List.length_replicate, fun y p hp x => by
  have := List.eq_of_mem_replicate (List.mem_of_getElem? hp)
  rw [this]; simp, fun p hp => by rw [List.eq_of_mem_replicate hp]; simp⟩
theorem BK.step {g : Tre.Graph} {l : List (Value × List Nat)} {i k y : Nat} {v : Value} {xs : List Nat} (h : BK g l i k) (hk : (g.kids i)[k]? = some y) (hy : l[y]? = some (v, xs)) (v' : Value) : BK g (l.set y (v', xs ++ [i])) i (k + 1) := by
 have hyl := (List.getElem?_eq_some_iff.1 hy).1
 have htk : (g.kids i).take (k + 1) = (g.kids i).take k ++ [y] := by rw [List.take_add_one, hk]; rfl
 refine ⟨by rw [List.length_set]; exact h.len, fun z p hz x => ?_, fun p hp => ?_⟩
 ·rw [htk]
  rw [List.getElem?_set] at hz
  by_cases e : y = z
  ·subst e
   rw [if_pos rfl, if_pos hyl] at hz
   have := Option.some.inj hz
   subst this
   have h1 := h.mem y _ hy x
   simp only at h1 ⊢
   rw [List.mem_append, h1, List.mem_append, List.mem_singleton, List.mem_singleton]
   constructor
   ·rintro ((h2 | h2) | rfl)
    ·exact .inl h2
    ·exact .inr ⟨h2.1, .inl h2.2⟩
    ·exact .inr ⟨rfl, .inr rfl⟩
   ·rintro (h2 | ⟨rfl, _⟩)
    ·exact .inl (.inl h2)
    ·exact .inr rfl
  ·rw [if_neg e] at hz
   rw [h.mem z p hz x, List.mem_append, List.mem_singleton]
   simp only [show ¬ z = y from fun e' => e e'.symm, or_false]
 ·rcases List.mem_or_eq_of_mem_set hp with hp | rfl
  ·have := h.size p hp; omega
  ·have := h.size _ (List.mem_of_getElem? hy)
   simp only [List.length_append, List.length_singleton] at this ⊢
   omega
theorem BK.next {g : Tre.Graph} {l : List (Value × List Nat)} {i k : Nat} (h : BK g l i k) (hk : k = (g.kids i).length) : BK g l (i + 1) 0 := by
 subst hk
 refine ⟨h.len, fun y p hp x => ?_, fun p hp => ?_⟩
 ·rw [h.mem y p hp x, List.take_length]
  simp only [List.take_zero, List.not_mem_nil, and_false, or_false]
  constructor
  ·rintro (⟨h1, h2⟩ | ⟨rfl, h2⟩)
   ·exact ⟨by omega, h2⟩
   ·exact ⟨by omega, h2⟩
  ·rintro ⟨h1, h2⟩
   by_cases e : x = i
   ·exact .inr ⟨e, by rw [← e]; exact h2⟩
   ·exact .inl ⟨by omega, h2⟩
 ·have := h.size p hp
  rw [List.range_succ, List.map_append, List.sum_append]
  simp only [List.map_cons, List.map_nil, List.sum_cons, List.sum_nil, g.kids_len] at this ⊢
  omega
theorem Graph.deg_sum (g : Tre.Graph) (i : Nat) (hi : i ≤ g.ns.length) : ((List.range i).map g.deg).sum ≤ g.weight := by
 rw [g.weight_range]
 have h1 : ∀ (l : List Nat), (l.map g.deg).sum ≤ (l.map fun i => (g.nd i).weight).sum := fun l => by
  induction l with
  | nil => simp
  | cons x r ih =>
   simp only [List.map_cons, List.sum_cons]
   have : g.deg x ≤ (g.nd x).weight := by show (g.nd x).args.length ≤ _; unfold Tre.Node.weight; omega
   omega
 refine Nat.le_trans (h1 _) ?_
 have e : List.range g.ns.length = List.range i ++ (List.range (g.ns.length - i)).map (i + ·) := by
  rw [← List.range_add]; congr 1; omega
 rw [e, List.map_append, List.sum_append]
 omega
def contOf (l : List (Value × List Nat)) (y : Nat) : List Nat := (l[y]?.map (·.2)).getD []
end Go.Tre
namespace Go.Proofs.YtlkfhbmjemjohaaGreatDoor.gr
open Go.RowKit Go.Shelf Go.Maps Go.Tre lex
theorem infoIS : (Tryz.prog.info? 31).map (fun i => (i.zero, i.size, i.bytes)) = some (some (.slice none 0 0), 1, 24) := by kernel_rfl

set_option maxRecDepth 100000 in
set_option maxHeartbeats 8000000 in
theorem general_any (a : Option Addr) (ca : Nat) (g : Tre.Graph) (ag : Option Addr) (cg : Nat) (gl : List Nat) (w : World) (hg : NodesAt w a g.ns) (c0 : g.checkC = 0) (wg : g.weight ≤ 2097152) (hl : IntsAt w ag (gl.map fun k : Nat => (k : Int))) (hm : ∀ m ∈ gl, m < g.ns.length) (hll : gl.length ≤ 2097152) :
  Calls Tryz.prog 16 #[.agg #[.slice a g.ns.length ca, .int .i64 g.root], .slice ag gl.length cg] w fun e w' =>
   ∃ v, e = .returned v ∧ Mem w w' [rowR 4 1 v g.ns.length ((List.range g.ns.length).map fun i => .bool (g.leadB gl i))] := by
 have M := (Mem.nil w).allocR #[.slice a g.ns.length ca, .int .i64 g.root] 24
 have HG := Tre.hid hg
 have HL := Tre.hid hl
 have HM0 := Tre.hid M
 have C0 := Tre.hid c0
 have OG := Tre.hid (Graph.ok_of c0)
 have hgl := OG.out.len
 have HLM := Tre.hid hm
 have HDS := Tre.hid g.deg_sum
 obtain ⟨ji, K1, K2, K3, K4⟩ := info_parts infoI
 have L1 := Tre.hid K1
 have L2 := Tre.hid K2
 have L3 := Tre.hid K3
 have L4 := Tre.hid K4
 obtain ⟨ti, T1, T2, T3, T4⟩ := info_parts infoIS
 obtain ⟨ib, B1, B2, B3, B4⟩ := info_parts infoB
 obtain ⟨wm, hmk, hmo, hmg⟩ := run_make_full (P := Tryz.prog) (w.alloc (.cells #[.slice a g.ns.length ca, .int .i64 g.root] 24)) 0 85 31 ti _ 1 Tryz.underlying85 T1 T2 T3 .i64 .i64 g.ns.length (by rw [T4]; omega) (by unfold maxLen; omega) (Nat.zero_le _)
 have e9 : (madeCells (Value.slice none 0 0).cells (g.ns.length * 1)).toList = (List.replicate g.ns.length ((.slice none 0 0, []) : Value × List Nat)).map (·.1) := by
  rw [show (Value.slice none 0 0).cells = #[Value.slice none 0 0] from rfl, toList_madeCells_one, Nat.mul_one, List.map_replicate]
 rw [e9, heapSize_alloc] at hmo
 rw [heapSize_alloc] at hmk
 obtain ⟨bt, hbt⟩ : ∃ bt : Nat, w.heap.size + 1 = bt := ⟨_, rfl⟩
 rw [hbt] at hmo hmk
 have MV : Mem w wm [rowR 31 1 (.slice (some ⟨bt, 0, none⟩) g.ns.length g.ns.length) g.ns.length ((List.replicate g.ns.length ((.slice none 0 0, []) : Value × List Nat)).map (·.1)), cellsR w.heap.size 24 #[.slice a g.ns.length ca, .int .i64 g.root]] :=
  M.add hmg (rowR 31 1 _ g.ns.length _) hmo (fun b hb => by have : some bt = some b := hb; cases this; simp; omega)
 have HMV := Tre.hid (((MV.allocR #[.slice (some ⟨bt, 0, none⟩) g.ns.length g.ns.length] 85).front 1 rfl).addBack g.ns.length)
 obtain ⟨g0, g1⟩ := HMV.out.two 3 rfl
 have HB1 := Tre.hid B1
 have HB2 := Tre.hid B2
 have HB3 := Tre.hid B3
 have HB4 := Tre.hid B4
 clear hg hl M c0 hm K1 K2 K3 K4 T1 T2 T3 T4 B1 B2 B3 B4 hmo hmg MV e9
 go_enter Tryz.func16, Tryz.ntmps16
 go_wp2_with fail
 generalize hb5 : wm.heap.size = b5 at HMV ⊢
 generalize hwq : wm.alloc (.cells #[.slice (some ⟨bt, 0, none⟩) g.ns.length g.ns.length] 85) = wq at HMV g0 g1 ⊢
 clear hb5 hwq hmk hbt HM0
 go_loopw [21] (fun v21 wr => ∃ (i : Nat) (l : List (Value × List Nat)), i ≤ g.ns.length ∧ v21 = .int .i64 i ∧ Hid (BK g l i 0) ∧ Hid (Mem w wr [backR l, rowR 31 1 (.slice (some ⟨bt, 0, none⟩) g.ns.length g.ns.length) g.ns.length (l.map (·.1)), cellsR b5 85 #[.slice (some ⟨bt, 0, none⟩) g.ns.length g.ns.length], cellsR w.heap.size 24 #[.slice a g.ns.length ca, .int .i64 g.root]]))
  (fun v21 _ => g.ns.length - (intOf v21).toNat)
 case atStart => exact ⟨0, _, Nat.zero_le _, rfl, BK.start g, HMV.out⟩
 case round =>
  obtain ⟨i, l, hi, rfl, hBK, hR⟩ := hrel
  clear g0 g1
  by_cases hlt : i < g.ns.length
  ·obtain ⟨b1, o1, rfl, nx⟩ := HG.out.at_ i (g.nd i) (by rw [Graph.nd_eq hlt]; exact List.getElem?_eq_getElem hlt)
   have hax := OG.out.kids_eq hlt
   have hkl := g.kids_len i
   have hkt := OG.out.kids_lt hlt
   have HKT := Tre.hid hkt
   have hds := HDS.out (i + 1) hlt
   rw [List.range_succ, List.map_append, List.sum_append] at hds
   simp only [List.map_cons, List.map_nil, List.sum_cons, List.sum_nil] at hds
   obtain ⟨ax, cx, lx, dx, x0, x1, x2, x3, x4, xA, xL, _, _⟩ := nx
   have hdl : (g.nd i).args.length = (g.kids i).length := by rw [hkl]; rfl
   have x0 := cell_below hR.out.below x0
   have x1 := cell_below hR.out.below x1
   have x2 := cell_below hR.out.below x2
   have x3 := cell_below hR.out.below x3
   have x4 := cell_below hR.out.below x4
   rw [hdl] at x2
   have XA : Hid (IntsAt w ax ((g.kids i).map fun k : Nat => (k : Int))) := by rw [← hax]; exact xA
   have hkl2 : ((List.range i).map g.deg).sum + (g.kids i).length ≤ 2097152 := by rw [hkl]; omega
   have MA := hR.out.alloc (.cells #[.int .i64 (g.nd i).kind, .string (g.nd i).name, .slice ax (g.kids i).length cx, .slice lx (g.nd i).labels.length dx, .bool (g.nd i).isOpen] 40)
   have HMA := Tre.hid MA
   obtain ⟨g0, g1⟩ := hR.out.two 3 rfl
   have i1 : (0 : Int) ≤ (i : Int) := by omega
   have i2 : (i : Int) < (g.ns.length : Int) := by omega
   generalize hS : ((List.range i).map g.deg).sum = S at *
   have HS := Tre.hid hS
   clear hax hkl hkt hds hdl xA xL MA hS
   go_wp2_with fail
   obtain ⟨wo, rfl⟩ : ∃ wo : World, wo = wr := ⟨_, rfl⟩
   go_loopw [29] (fun v29 wi => ∃ (k : Nat) (l : List (Value × List Nat)), k ≤ (g.kids i).length ∧ v29 = .int .i64 k ∧ Hid (BK g l i k) ∧ Hid (Mem w wi [backR l, rowR 31 1 (.slice (some ⟨bt, 0, none⟩) g.ns.length g.ns.length) g.ns.length (l.map (·.1)), cellsR b5 85 #[.slice (some ⟨bt, 0, none⟩) g.ns.length g.ns.length], cellsR w.heap.size 24 #[.slice (some ⟨b1, o1, none⟩) g.ns.length ca, .int .i64 g.root]]))
    (fun v29 _ => (g.kids i).length - (intOf v29).toNat)
   case atStart => exact ⟨0, l, Nat.zero_le _, rfl, hBK.out, HMA.out⟩
   case round =>
    obtain ⟨k, l, hk, rfl, hBK, hI⟩ := hrel
    by_cases hkl : k < (g.kids i).length
    ·have hyl := HKT.out _ (List.getElem_mem hkl)
     have HKY : Hid ((g.kids i)[k]? = some (g.kids i)[k]) := List.getElem?_eq_getElem hkl
     obtain ⟨bx, ox, rfl, hcl⟩ := XA.out.at_ k (rk (g.kids i)[k]) (by rw [casts_map, List.getElem?_map, HKY.out]; rfl)
     have hcl2 : wr.cell? ⟨bx, ox + k, none⟩ = some (.int .i64 ((g.kids i)[k] : Int)) := cell_below hI.out.below hcl
     generalize (g.kids i)[k] = y at *
     obtain ⟨vy, xs, hpy⟩ : ∃ v xs, l[y]? = some (v, xs) := by
      have : y < l.length := by rw [hBK.out.len]; exact hyl
      exact ⟨l[y].1, l[y].2, List.getElem?_eq_getElem this⟩
     obtain ⟨ay, cy, rfl, _, _⟩ := row_read (hI.out.backRow 0 rfl hpy)
     have ty := hI.out.cellAt 1 rfl y (u := .slice ay xs.length cy) (by rw [List.getElem?_map, hpy]; rfl)
     have c5 : wr.cell? ⟨b5, 0, none⟩ = some (.slice (some ⟨bt, 0, none⟩) g.ns.length g.ns.length) := hI.out.cell 2 rfl 0 rfl
     have hxs : xs.length ≤ 2097152 := by have := hBK.out.size _ (List.mem_of_getElem? hpy); rw [HS.out] at this; simp only at this; omega
     have HPY := Tre.hid hpy
     have HBK2 := Tre.hid (fun v' => hBK.out.step HKY.out HPY.out v')
     have j1 : (0 : Int) ≤ (y : Int) := by omega
     have j2 : (y : Int) < (g.ns.length : Int) := by omega
     have l1 : (0 : Int) ≤ (k : Int) := by omega
     have l2 : (k : Int) < ((g.kids i).length : Int) := by omega
     clear hcl hpy
     go_upto_region 8 with fail
     have cS : Cond (fun w' => w'.cell? ⟨b5, 0, none⟩ = some (.slice (some ⟨bt, 0, none⟩) g.ns.length g.ns.length) ∧ w'.cell? ⟨bt, y, none⟩ = some (.slice ay xs.length cy)) := ⟨⟩
     refine cS.keep [10] ?_ (fun hH0 => ?_)
     ·exact ⟨c5, ty⟩
     have H0 := Tre.hid hI.out.drew
     generalize hq : wr.drew = wq0 at H0 hH0 ⊢
     clear hq
     refine lPq 1 (some 34) (v := ?_) rfl ?_ (keep_of hH0) ?_
     rotate_left
     ·intro w; go_simp <;> with_reducible rfl
     try simp only [Act.put, zqf, zqg, zqh]
     refine lPq 3 (some 36) (v := ?_) rfl ?_ (keep_of hH0) ?_
     rotate_left
     ·intro w; go_simp <;> with_reducible rfl
     try simp only [Act.put, zqf, zqg, zqh]
     refine lPq 6 (some 39) (v := ?_) rfl ?_ (keep_of hH0) ?_
     rotate_left
     ·intro w; go_simp <;> with_reducible rfl
     try simp only [Act.put, zqf, zqg, zqh]
     refine lTq 0 (some 33) (v := ?_) rfl ?_ hH0 ?_
     rotate_left
     ·intro w hSw; (try dsimp only at hSw); go_simp <;> with_reducible rfl
     try simp only [Act.put, zqf, zqg, zqh]
     refine lTq 2 (some 35) (v := ?_) rfl ?_ hH0 ?_
     rotate_left
     ·intro w hSw; (try dsimp only at hSw); go_simp <;> with_reducible rfl
     try simp only [Act.put, zqf, zqg, zqh]
     refine lPq 4 (some 37) (v := ?_) rfl ?_ (keep_of hH0) ?_
     rotate_left
     ·intro w; go_simp <;> with_reducible rfl
     try simp only [Act.put, zqf, zqg, zqh]
     refine lTq 5 (some 38) (v := ?_) rfl ?_ hH0 ?_
     rotate_left
     ·intro w hSw; (try dsimp only at hSw); go_simp <;> with_reducible rfl
     try simp only [Act.put, zqf, zqg, zqh]
     refine lOne 7 (by kernel_rfl) (LStep.op (fun K hK => ?_))
     go_simp
     have H1 := Tre.hid (H0.out.allocRow #[.int .i64 (i : Int)] 3 1 1 (by unfold maxLen; omega) rfl)
     generalize hb : wq0.heap.size = b40 at H1 ⊢
     generalize hw : wq0.alloc (.cells #[.int .i64 (i : Int)] 3) = wq1 at H1 ⊢
     clear hb hw
     refine hK.out _ _ ?_ (fun hH1 => ?_)
     ·exact ⟨H1.out.cell 3 rfl 0 rfl, H1.out.cellAt 2 rfl y (by rw [List.getElem?_map, HPY.out]; rfl)⟩
     clear hK K hH0
     try simp only [Act.put, zqf, zqg, zqh]
     refine lOne 8 (by kernel_rfl) (LStep.op (fun K hK => ?_))
     simp only [zqa, zqb, zqc]
     rw [if_pos (by rfl)]
     refine wp_append_row _ _ _ 31 (by rfl) 3 ji _ 1 8 Tryz.underlying31 L1.out L2.out L3.out L4.out rfl (by omega) (.slice ay xs.length cy) xs.length (xs.map rk) (by rfl) (H1.out.backRow 1 rfl HPY.out) (some ⟨b40, 0, none⟩) 1 1 [.int .i64 (i : Int)] (by rfl) ⟨rfl, fun j u hj => ⟨_, 0, rfl, by rw [Nat.zero_add]; exact H1.out.cellAt 0 rfl j hj⟩⟩ (by simp [Value.oneCell']) (by unfold maxLen; omega) (by omega) ?_
     intro v' wq2 hown4 hgrow4 hat4
     have hown5 : wq2.ownsRow 0 3 1 v' (xs ++ [i]).length ((xs ++ [i]).map rk) := by rw [List.length_append, List.length_singleton, List.map_append]; exact hown4
     obtain ⟨av, cv, rfl, _, _⟩ := row_read hown4
     have M4 := H1.out.backSet 1 rfl HPY.out hgrow4 hown5 hat4
     have H2 := Tre.hid M4
     clear M4 hown4 hown5 hgrow4 hat4
     (try dsimp only)
     refine hK.out _ _ ?_ (fun hH2 => ?_)
     ·exact ⟨H2.out.cell 3 rfl 0 rfl, H2.out.cellAt 2 rfl y (by rw [List.getElem?_map, HPY.out]; rfl)⟩
     clear hK K hH1
     try simp only [Act.put, zqf, zqg, zqh]
     refine lPq 9 (some 42) (v := ?_) rfl ?_ (keep_of hH2) ?_
     rotate_left
     ·intro w; go_simp <;> with_reducible rfl
     try simp only [Act.put, zqf, zqg, zqh]
     refine lOne 10 (by kernel_rfl) (LFall.op (by kernel_rfl) (fun K hK => ?_))
     have f2 := H2.out.freeAt 2 rfl y
     have q2 := H2.out.cellAt 2 rfl y (u := .slice ay xs.length cy) (by rw [List.getElem?_map, HPY.out]; rfl)
     have H3 := Tre.hid (H2.out.setRow 2 rfl y (.slice av (xs.length + 1) cv))
     go_simp
     refine hK.out _ _ ?_
     clear hK K hH2
     try simp only [Act.put, zqf, zqg, zqh]
     refine lDone (by kernel_rfl) ?_
     have H8 := (H3.out.del 0)
     have e9 : (l.map (·.1)).set y (.slice av (xs.length + 1) cv) = (l.set y (.slice av (xs.length + 1) cv, xs ++ [i])).map (·.1) := by rw [List.map_set]
     have H9 : Mem w (wq2.setCell ⟨bt, y, none⟩ (.slice av (xs.length + 1) cv)) [backR (l.set y (.slice av (xs.length + 1) cv, xs ++ [i])), rowR 31 1 (.slice (some ⟨bt, 0, none⟩) g.ns.length g.ns.length) g.ns.length ((l.set y (.slice av (xs.length + 1) cv, xs ++ [i])).map (·.1)), cellsR b5 85 #[.slice (some ⟨bt, 0, none⟩) g.ns.length g.ns.length], cellsR w.heap.size 24 #[.slice (some ⟨b1, o1, none⟩) g.ns.length ca, .int .i64 g.root]] := by rw [← e9]; exact H8
     have HM9 := Tre.hid H9
     clear H8 e9 H9 q2 f2
     go_wp2_with fail
     go_roundw
     case rel => exact ⟨k + 1, l.set y (.slice av (xs.length + 1) cv, xs ++ [i]), by omega, by go_num, HBK2.out _, HM9.out⟩
     case measure => simp [intOf]; omega
    ·have e : k = (g.kids i).length := by omega
     have HBN := Tre.hid (hBK.out.next e)
     clear e
     go_wp2_with fail
     go_roundw
     case rel => exact ⟨i + 1, l, by omega, by go_num, HBN.out, hI.out⟩
     case measure => simp [intOf]; omega
  ·have e : i = g.ns.length := by omega
   subst e
   obtain ⟨g0, g1⟩ := hR.out.two 3 rfl
   have HKK : Hid (∀ y, y < g.ns.length → ∀ b ∈ contOf l y, b < g.ns.length ∧ y ∈ g.kids b) := fun y hy b hb => by
    have hyl : y < l.length := by rw [hBK.out.len]; exact hy
    unfold contOf at hb
    rw [List.getElem?_eq_getElem hyl] at hb
    have := (hBK.out.mem y _ (List.getElem?_eq_getElem hyl) b).1 hb
    simp only [List.take_zero, List.not_mem_nil, and_false, or_false] at this
    exact this
   have HKB : Hid (∀ y, y < g.ns.length → ∀ b, b < g.ns.length → y ∈ g.kids b → b ∈ contOf l y) := fun y hy b hb hk => by
    have hyl : y < l.length := by rw [hBK.out.len]; exact hy
    unfold contOf
    rw [List.getElem?_eq_getElem hyl]
    exact (hBK.out.mem y _ (List.getElem?_eq_getElem hyl) b).2 (.inl ⟨hb, hk⟩)
   have HCP : Hid (∀ (y : Nat) (p : Value × List Nat), l[y]? = some p → p.2 = contOf l y) := fun y p hp => by unfold contOf; rw [hp]; rfl
   have HSZ : Hid (∀ y, (contOf l y).length ≤ 4194304) := fun y => by
    unfold contOf
    cases hp : l[y]? with
    | none => simp
    | some p =>
     have h1 := hBK.out.size p (List.mem_of_getElem? hp)
     have h2 := HDS.out g.ns.length (Nat.le_refl _)
     simp only [zqd, Option.getD_some]
     omega
   obtain ⟨w2, hmk2, hmo2, hmg2⟩ := run_make_full (P := Tryz.prog) wr 0 49 4 ib _ 1 Tryz.underlying49 HB1.out HB2.out HB3.out .i64 .i64 g.ns.length (by rw [HB4.out]; omega) (by unfold maxLen; omega) (Nat.zero_le _)
   rw [made_bools] at hmo2
   obtain ⟨bm, hbm⟩ : ∃ bm : Nat, wr.heap.size = bm := ⟨_, rfl⟩
   rw [hbm] at hmo2 hmk2
   have MB := hR.out.add hmg2 (rowR 4 1 (.slice (some ⟨bm, 0, none⟩) g.ns.length g.ns.length) g.ns.length (metL g [])) hmo2 (fun b hb => by have : some bm = some b := hb; cases this; omega)
   have MC := (MB.allocR #[.slice (some ⟨bm, 0, none⟩) g.ns.length g.ns.length] 49).allocR #[.nilFunc] 86
   rw [heapSize_alloc] at MC
   have n0 := MC.cell 0 rfl 0 rfl
   have nf := MC.free 0 rfl 0
   have MD := (MB.allocR #[.slice (some ⟨bm, 0, none⟩) g.ns.length g.ns.length] 49).allocR #[.func (.func 38) #[] (visitCaps w2.heap.size b5 (w2.heap.size + 1))] 86
   rw [heapSize_alloc] at MD
   have HMD := Tre.hid (((((((MD.front 0 rfl).front 5 rfl).front 2 rfl).front 5 rfl).front 5 rfl).front 5 rfl) )
   have hmz := hmg2.size
   clear hmo2 hmg2 MB MC MD
   go_wp2_with fail
   clear n0 nf hmk2 hbm hmz
   generalize hbo : w2.heap.size = bo at HMD ⊢
   generalize hb11 : bo + 1 = b11 at HMD ⊢
   generalize hwz : ((w2.alloc (.cells #[.slice (some ⟨bm, 0, none⟩) g.ns.length g.ns.length] 49)).alloc (.cells #[.func (.func 38) #[] (visitCaps bo b5 b11)] 86)) = wz at HMD ⊢
   clear hwz hb11 hbo g0 g1
   go_loopw [52] (fun v52 wi => ∃ (k : Nat) (V : List Nat), k ≤ gl.length ∧ v52 = .int .i64 k ∧ Hid (VL g (contOf l) [] (gl.take k) V) ∧ Hid (Mem w wi [rowR 4 1 (.slice (some ⟨bm, 0, none⟩) g.ns.length g.ns.length) g.ns.length (metL g V), backR l, rowR 31 1 (.slice (some ⟨bt, 0, none⟩) g.ns.length g.ns.length) g.ns.length (l.map (·.1)), cellsR bo 49 #[.slice (some ⟨bm, 0, none⟩) g.ns.length g.ns.length], cellsR b5 85 #[.slice (some ⟨bt, 0, none⟩) g.ns.length g.ns.length], cellsR b11 86 #[.func (.func 38) #[] (visitCaps bo b5 b11)], cellsR w.heap.size 24 #[.slice a g.ns.length ca, .int .i64 g.root]]))
    (fun v52 _ => gl.length - (intOf v52).toNat)
   case atStart => exact ⟨0, [], Nat.zero_le _, rfl, VL.nil List.nodup_nil (by simp), HMD.out⟩
   case round =>
    obtain ⟨k, V, hk, rfl, hVL, hI⟩ := hrel
    by_cases hkl : k < gl.length
    ·have hxl := HLM.out _ (List.getElem_mem hkl)
     have HTS : Hid (gl.take (k + 1) = gl.take k ++ [gl[k]]) := take_snoc_n hkl
     obtain ⟨bx, ox, rfl, hcl⟩ := HL.out.at_ k (rk gl[k]) (by rw [casts_map, List.getElem?_map, List.getElem?_eq_getElem hkl]; rfl)
     have hcl2 : wr.cell? ⟨bx, ox + k, none⟩ = some (.int .i64 (gl[k] : Int)) := cell_below hI.out.below hcl
     generalize gl[k] = x at *
     have c11 : wr.cell? ⟨b11, 0, none⟩ = some (.func (.func 38) #[] (visitCaps bo b5 b11)) := hI.out.cell 5 rfl 0 rfl
     have CV := visitG g w bm bt bo b5 b11 l (contOf l) hBK.out.len HCP.out HKK.out HSZ.out _ x V wr [cellsR w.heap.size 24 #[.slice a g.ns.length ca, .int .i64 g.root]] (Nat.le_refl _) hxl hVL.out.nod hVL.out.lt hI.out
     have HCV := Tre.hid CV
     have l1 : (0 : Int) ≤ k := by omega
     have l2 : (k : Int) < gl.length := by omega
     clear hcl CV
     go_wp2_with fail
     refine HCV.out.mono ?_
     rintro e w5 ⟨v5, rfl, V2, hv2, m5⟩
     have HV2 := Tre.hid (hVL.out.snoc hv2)
     rw [← HTS.out] at HV2
     have HM6 := Tre.hid m5
     clear m5 hv2
     go_wp2_with fail
     go_roundw
     case rel => exact ⟨k + 1, V2, by omega, by go_num, HV2.out, HM6.out⟩
     case measure => simp [intOf]; omega
    ·have hV := hVL.out
     rw [List.take_of_length_le (by omega)] at hV
     have co : wr.cell? ⟨bo, 0, none⟩ = some (.slice (some ⟨bm, 0, none⟩) g.ns.length g.ns.length) := hI.out.cell 3 rfl 0 rfl
     have HE : Hid (metL g V = (List.range g.ns.length).map fun i => .bool (g.leadB gl i)) := by
      show _ = _
      unfold metL
      refine List.map_congr_left (fun i hi => ?_)
      rw [hV.done OG.out HKB.out i (List.mem_range.1 hi)]
     clear hV
     go_wp2_with fail
     go_ret
     refine ⟨_, rfl, ?_⟩
     rw [← HE.out]
     exact hI.out.sub (by simp)
end Go.Proofs.YtlkfhbmjemjohaaGreatDoor.gr
namespace Go.Tre
theorem set_sameL {α : Type} {l : List α} {i : Nat} {x : α} (h : l[i]? = some x) : l.set i x = l := by
 apply List.ext_getElem?
 intro m
 rw [List.getElem?_set]
 split
 ·rename_i e
  subst e
  rw [if_pos (List.getElem?_eq_some_iff.1 h).1, h]
 ·rfl
end Go.Tre
namespace Go.Proofs.YtlkfhbmjemjohaaGreatDoor.gr
open Go.RowKit Go.Shelf Go.Maps Go.Tre lex
def loosR (l : List (Value × Nat)) : Res where
 own b := ∃ p ∈ l, p.1.ownBlock = some b
 P w := ∀ p ∈ l, ∃ xs, w.ownsRow 0 3 1 p.1 p.2 xs
 stable w w' h hs := fun p hp => by
  obtain ⟨xs, hx⟩ := h p hp
  exact ⟨xs, (rowR 3 1 p.1 p.2 xs).stable w w' hx (fun b hb => hs b ⟨p, hp, hb⟩)⟩
 has w h b hb := by
  obtain ⟨p, hp, hb⟩ := hb
  obtain ⟨xs, hx⟩ := h p hp
  exact (rowR 3 1 p.1 p.2 xs).has w hx b hb
def argsL (ds : List NodeV) : List (Value × Nat) := ds.map fun d => (d.va, d.n.args.length)
end Go.Proofs.YtlkfhbmjemjohaaGreatDoor.gr
