/- A table of rows of numbers, each row of its own block: who points to whom. What a going back keeps; plain. gen.general's visit. -/
import Derived.Test.YtlkfhbmjemjohaaDoorB11
namespace Go.Tre
open Go.RowKit
/-- from V on, s is met: V' holds what leads to s, and all that leads to what is new -/
structure VL (g : Tre.Graph) (cont : Nat → List Nat) (V s V' : List Nat) : Prop where
  sub : ∀ y ∈ V, y ∈ V'
  has : ∀ x ∈ s, x ∈ V'
  nod : V'.Nodup
  lt : ∀ y ∈ V', y < g.ns.length
  closed : ∀ y ∈ V', y ∉ V → ∀ b ∈ cont y, b ∈ V'
  from_ : ∀ y ∈ V', y ∉ V → ∃ x ∈ s, Rch g y x
section
variable {g : Tre.Graph} {cont : Nat → List Nat} {V V1 V2 s : List Nat} {x : Nat}
theorem VL.nil (hn : V.Nodup) (hl : ∀ y ∈ V, y < g.ns.length) : VL g cont V [] V := ⟨fun _ h => h, by simp, hn, hl, fun y h h' => absurd h h', fun y h h' => absurd h h'⟩
theorem VL.skip (hn : V.Nodup) (hl : ∀ y ∈ V, y < g.ns.length) (hx : x ∈ V) : VL g cont V [x] V := ⟨fun _ h => h, fun y hy => by simp at hy; rw [hy]; exact hx, hn, hl, fun y h h' => absurd h h', fun y h h' => absurd h h'⟩
theorem VL.snoc (h : VL g cont V s V1) (k : VL g cont V1 [x] V2) : VL g cont V (s ++ [x]) V2 := by
  refine ⟨fun y hy => k.sub y (h.sub y hy), fun y hy => ?_, k.nod, k.lt, fun y hy hn b hb => ?_, fun y hy hn => ?_⟩
  · rcases List.mem_append.1 hy with hy | hy
    · exact k.sub y (h.has y hy)
    · exact k.has y hy
  · by_cases h1 : y ∈ V1
    · exact k.sub b (h.closed y h1 hn b hb)
    · exact k.closed y hy h1 b hb
  · by_cases h1 : y ∈ V1
    · obtain ⟨z, hz, r⟩ := h.from_ y h1 hn
      exact ⟨z, by simp [hz], r⟩
    · obtain ⟨z, hz, r⟩ := k.from_ y hy h1
      exact ⟨z, by simp at hz; simp [hz], r⟩
theorem VL.visit (hc : ∀ b ∈ cont x, x ∈ g.kids b) (k : VL g cont (V ++ [x]) (cont x) V2) : VL g cont V [x] V2 := by
  refine ⟨fun y hy => k.sub y (by simp [hy]), fun y hy => by simp at hy; rw [hy]; exact k.sub x (by simp), k.nod, k.lt, fun y hy hn b hb => ?_, fun y hy hn => ?_⟩
  · by_cases e : y = x
    · subst e; exact k.has b hb
    · exact k.closed y hy (by simp [hn, e]) b hb
  · by_cases e : y = x
    · exact ⟨x, by simp, by rw [e]; exact .refl⟩
    · obtain ⟨b, hb, r⟩ := k.from_ y hy (by simp [hn, e])
      exact ⟨x, by simp, r.step (hc b hb)⟩
theorem VL.done (og : g.Ok) (hc : ∀ y, y < g.ns.length → ∀ b, b < g.ns.length → y ∈ g.kids b → b ∈ cont y) {gl : List Nat} (h : VL g cont [] gl V) (i : Nat) (hi : i < g.ns.length) : (decide (i ∈ V)) = g.leadB gl i := by
  rw [Bool.eq_iff_iff, decide_eq_true_eq, Graph.leadB_iff og hi]
  constructor
  · intro hv
    obtain ⟨k, hk, r⟩ := h.from_ i hv (by simp)
    exact ⟨k, hk, r⟩
  · rintro ⟨k, hk, r⟩
    -- back along the way
    have back : ∀ a b, Rch g a b → a < g.ns.length → b ∈ V → a ∈ V := fun a b r ha => by
      induction r with
      | refl => exact id
      | step hab hc' ih => intro hV; exact ih (h.closed _ hV (by simp) _ (hc _ (h.lt _ hV) _ (hab.lt og ha) hc'))
    exact back i k r hi (h.has k hk)
theorem nodup_lt_len {n : Nat} : ∀ {V : List Nat}, V.Nodup → (∀ y ∈ V, y < n) → V.length ≤ n := by
  intro V hn hl
  have sub : ∀ (V U : List Nat), V.Nodup → (∀ p ∈ V, p ∈ U) → V.length ≤ U.length := by
    intro V
    induction V with
    | nil => intro U _ _; simp
    | cons p V ih =>
      intro U hn hs
      have h1 := List.nodup_cons.1 hn
      have := ih (U.erase p) h1.2 (fun q hq => (List.mem_erase_of_ne (fun e => h1.1 (by rw [← e]; exact hq))).2 (hs q (by simp [hq])))
      rw [List.length_erase_of_mem (hs p (by simp))] at this
      have hp := List.length_pos_of_mem (hs p (by simp))
      simp only [List.length_cons]
      omega
  have := sub V (List.range n) hn (fun p hp => List.mem_range.2 (hl p hp))
  rwa [List.length_range] at this
theorem nodup_snoc (hn : V.Nodup) (hx : x ∉ V) : (V ++ [x]).Nodup := List.nodup_append.2 ⟨hn, by simp, fun p hp q hq e => by simp at hq; subst hq; subst e; exact hx hp⟩
theorem lt_snoc {n : Nat} (hl : ∀ y ∈ V, y < n) (hx : x < n) : ∀ y ∈ V ++ [x], y < n := fun y hy => by
  rcases List.mem_append.1 hy with h | h
  · exact hl y h
  · simp at h; rw [h]; exact hx
end
end Go.Tre
namespace Go.Proofs.YtlkfhbmjemjohaaDoor.gr
open Go.RowKit Go.Shelf Go.Maps Go.Tre lex
def backR (l : List (Value × List Nat)) : Res where
  own b := ∃ p ∈ l, p.1.ownBlock = some b
  P w := (∀ p ∈ l, w.ownsRow 0 3 1 p.1 p.2.length (p.2.map rk)) ∧ ∀ (i j : Nat) (p q : Value × List Nat), i ≠ j → l[i]? = some p → l[j]? = some q → ∀ b, p.1.ownBlock = some b → q.1.ownBlock ≠ some b
  stable w w' h hs := ⟨fun p hp => (rowR 3 1 p.1 p.2.length (p.2.map rk)).stable w w' (h.1 p hp) (fun b hb => hs b ⟨p, hp, hb⟩), h.2⟩
  has w h b hb := by
    obtain ⟨p, hp, hb⟩ := hb
    exact (rowR 3 1 p.1 p.2.length (p.2.map rk)).has w (h.1 p hp) b hb
theorem backR_start (w : World) (n : Nat) : (backR (List.replicate n (.slice none 0 0, []))).P w :=
  ⟨fun p hp => by rw [List.eq_of_mem_replicate hp]; exact World.ownsRow_nil w _ _ _, fun i j p q _ hp _ b hb => by
    have := List.eq_of_mem_replicate (List.mem_of_getElem? hp)
    rw [this] at hb; cases hb⟩
theorem _root_.Go.Tre.Mem.addBack {w0 w : World} {rs : List Res} (h : Mem w0 w rs) (n : Nat) : Mem w0 w (backR (List.replicate n (.slice none 0 0, [])) :: rs) :=
  h.add ⟨rfl, rfl, rfl, Nat.le_refl _, fun _ _ _ => rfl⟩ _ (backR_start w n) (fun b hb => by
    obtain ⟨p, hp, hb⟩ := hb
    rw [List.eq_of_mem_replicate hp] at hb; cases hb)
theorem _root_.Go.Tre.Mem.backRow {w0 w : World} {rs : List Res} {l : List (Value × List Nat)} {j : Nat} {v : Value} {xs : List Nat} (h : Mem w0 w rs) (i : Nat) (hi : rs[i]? = some (backR l)) (hj : l[j]? = some (v, xs)) : w.ownsRow 0 3 1 v xs.length (xs.map rk) :=
  (h.at_ i hi).1 (v, xs) (List.mem_of_getElem? hj)
theorem _root_.Go.Tre.Mem.backSet {w0 w w' : World} {rs : List Res} {l : List (Value × List Nat)} {j : Nat} {v v' : Value} {xs xs' : List Nat} (h : Mem w0 w rs) (i : Nat) (hi : rs[i]? = some (backR l)) (hj : l[j]? = some (v, xs))
    (hg : w.grownBy w' v.ownBlock) (hown : w'.ownsRow 0 3 1 v' xs'.length (xs'.map rk)) (hat : v'.ownBlock = v.ownBlock ∨ v'.ownBlock = some w.heap.size) : Mem w0 w' (rs.set i (backR (l.set j (v', xs')))) := by
  have hP := h.at_ i hi
  have hmem := List.mem_of_getElem? hj
  have hjl := (List.getElem?_eq_some_iff.1 hj).1
  have hlt : ∀ p ∈ l, ∀ b, p.1.ownBlock = some b → b < w.heap.size := fun p hp b hb => (rowR 3 1 p.1 p.2.length (p.2.map rk)).has w (hP.1 p hp) b hb
  have get : ∀ m p, (l.set j (v', xs'))[m]? = some p → (m = j ∧ p = (v', xs')) ∨ (m ≠ j ∧ l[m]? = some p) := fun m p hm => by
    rw [List.getElem?_set] at hm
    split at hm
    · rename_i e
      subst e
      first | exact .inl ⟨rfl, (Option.some.inj hm).symm⟩ | (rw [if_pos hjl] at hm; exact .inl ⟨rfl, (Option.some.inj hm).symm⟩)
    · rename_i e
      exact .inr ⟨fun e' => e e'.symm, hm⟩
  refine h.set_row i hi hg (fun k e => ⟨_, hmem, e⟩) _ ⟨fun p hp => ?_, fun m k p q hmk hm hk b hb => ?_⟩ (fun b hb => ?_)
  · obtain ⟨m, hm⟩ := List.getElem?_of_mem hp
    rcases get m p hm with ⟨_, rfl⟩ | ⟨hne, hm'⟩
    · exact hown
    · have hpm := List.mem_of_getElem? hm'
      refine (rowR 3 1 p.1 p.2.length (p.2.map rk)).stable w w' (hP.1 p hpm) (fun b hb => hg.block b (hlt p hpm b hb) (fun e => ?_))
      exact hP.2 m j p (v, xs) hne hm' hj b hb e.symm
  · rcases get m p hm with ⟨rfl, rfl⟩ | ⟨hne, hm'⟩
    · rcases get k q hk with ⟨rfl, rfl⟩ | ⟨hnk, hk'⟩
      · exact absurd rfl hmk
      · rcases hat with e | e
        · exact hP.2 m k (v, xs) q hmk hj hk' b (e.symm.trans hb)
        · have hb' : v'.ownBlock = some b := hb
          rw [e] at hb'
          cases hb'
          intro hq
          have := hlt q (List.mem_of_getElem? hk') _ hq
          omega
    · rcases get k q hk with ⟨rfl, rfl⟩ | ⟨hnk, hk'⟩
      · have hlb := hlt p (List.mem_of_getElem? hm') b hb
        rcases hat with e | e
        · intro hq
          exact hP.2 m k p (v, xs) hmk hm' hj b hb (e.symm.trans hq)
        · intro hq
          have hq' : v'.ownBlock = some b := hq
          rw [e] at hq'
          cases hq'
          omega
      · exact hP.2 m k p q hmk hm' hk' b hb
  · obtain ⟨p, hp, hb⟩ := hb
    obtain ⟨m, hm⟩ := List.getElem?_of_mem hp
    rcases get m p hm with ⟨_, rfl⟩ | ⟨_, hm'⟩
    · rcases hat with e | e
      · exact .inl ⟨_, hmem, e.symm.trans hb⟩
      · right
        have hb' : v'.ownBlock = some b := hb
        rw [e] at hb'
        cases hb'
        exact Nat.le_refl _
    · exact .inl ⟨p, List.mem_of_getElem? hm', hb⟩
end Go.Proofs.YtlkfhbmjemjohaaDoor.gr
namespace Go.Proofs.YtlkfhbmjemjohaaDoor.gr
open Go.RowKit Go.Shelf Go.Maps Go.Tre lex
abbrev visitCaps (bo b5 b11 : Nat) : Array Value := #[.pointer (some ⟨bo, 0, none⟩), .pointer (some ⟨b5, 0, none⟩), .pointer (some ⟨b11, 0, none⟩)]

set_option maxRecDepth 100000 in
set_option maxHeartbeats 8000000 in
theorem visitG (g : Tre.Graph) (w0 : World) (bm bt bo b5 b11 : Nat) (l : List (Value × List Nat)) (cont : Nat → List Nat) (hl : l.length = g.ns.length) (hc : ∀ y p, l[y]? = some p → p.2 = cont y) (hk : ∀ y, y < g.ns.length → ∀ b ∈ cont y, b < g.ns.length ∧ y ∈ g.kids b) (hsz : ∀ y, (cont y).length ≤ 4194304) :
    ∀ (fuel : Nat) (x : Nat) (V : List Nat) (w : World) (rs : List Res), g.ns.length - V.length ≤ fuel → x < g.ns.length → V.Nodup → (∀ y ∈ V, y < g.ns.length) →
    Mem w0 w (rowR 4 1 (.slice (some ⟨bm, 0, none⟩) g.ns.length g.ns.length) g.ns.length (metL g V) :: backR l :: rowR 25 1 (.slice (some ⟨bt, 0, none⟩) g.ns.length g.ns.length) g.ns.length (l.map (·.1)) ::
      cellsR bo 41 #[.slice (some ⟨bm, 0, none⟩) g.ns.length g.ns.length] :: cellsR b5 68 #[.slice (some ⟨bt, 0, none⟩) g.ns.length g.ns.length] :: cellsR b11 69 #[.func (.func 27) #[] (visitCaps bo b5 b11)] :: rs) →
    Calls Tryd.prog 27 (#[.int .i64 (x : Int)] ++ visitCaps bo b5 b11) w fun e w' => ∃ v, e = .returned v ∧ ∃ V', VL g cont V [x] V' ∧
      Mem w0 w' (rowR 4 1 (.slice (some ⟨bm, 0, none⟩) g.ns.length g.ns.length) g.ns.length (metL g V') :: backR l :: rowR 25 1 (.slice (some ⟨bt, 0, none⟩) g.ns.length g.ns.length) g.ns.length (l.map (·.1)) ::
      cellsR bo 41 #[.slice (some ⟨bm, 0, none⟩) g.ns.length g.ns.length] :: cellsR b5 68 #[.slice (some ⟨bt, 0, none⟩) g.ns.length g.ns.length] :: cellsR b11 69 #[.func (.func 27) #[] (visitCaps bo b5 b11)] :: rs) := by
  have HLL := Tre.hid hl
  have HC := Tre.hid hc
  have HK := Tre.hid hk
  have HSZ := Tre.hid hsz
  clear hl hc hk hsz
  intro fuel
  induction fuel with
  | zero =>
    intro x V w rs hb hx hnd hlt hM
    have hin : x ∈ V := by
      by_cases h : x ∈ V
      · exact h
      · have := nodup_lt_len (nodup_snoc hnd h) (lt_snoc hlt hx)
        simp at this
        omega
    have m0 := hM.cellAt 0 rfl x (u := .bool true) (by rw [metL, List.getElem?_map, List.getElem?_range hx]; simp [hin])
    have c0 := hM.cell 3 rfl 0 rfl
    have i1 : (0 : Int) ≤ x := by omega
    have i2 : (x : Int) < g.ns.length := by omega
    have HM1 := Tre.hid hM
    have HV := Tre.hid (VL.skip (cont := cont) hnd hlt hin)
    clear hM hin hnd hlt
    go_enter Tryd.func27, Tryd.ntmps27
    go_wp2_with fail
    refine bodyPost_ret (v := .tuple #[]) (by simp [results, Tryd.results27, go_sem]) rfl ⟨_, rfl, V, HV.out, HM1.out⟩
  | succ fuel ih =>
    intro x V w rs hb hx hnd hlt hM
    by_cases hin : x ∈ V
    · have m0 := hM.cellAt 0 rfl x (u := .bool true) (by rw [metL, List.getElem?_map, List.getElem?_range hx]; simp [hin])
      have c0 := hM.cell 3 rfl 0 rfl
      have i1 : (0 : Int) ≤ x := by omega
      have i2 : (x : Int) < g.ns.length := by omega
      have HM1 := Tre.hid hM
      have HV := Tre.hid (VL.skip (cont := cont) hnd hlt hin)
      clear hM hin hnd hlt ih
      go_enter Tryd.func27, Tryd.ntmps27
      go_wp2_with fail
      refine bodyPost_ret (v := .tuple #[]) (by simp [results, Tryd.results27, go_sem]) rfl ⟨_, rfl, V, HV.out, HM1.out⟩
    · have IH := Tre.hid ih
      have m0 := hM.cellAt 0 rfl x (u := .bool false) (by rw [metL, List.getElem?_map, List.getElem?_range hx]; simp [hin])
      have mf := hM.freeAt 0 rfl x
      have c0 : w.cell? ⟨bo, 0, none⟩ = some (.slice (some ⟨bm, 0, none⟩) g.ns.length g.ns.length) := hM.cell 3 rfl 0 rfl
      have M2 := hM.setRow 0 rfl x (.bool true)
      have e2 : (metL g V).set x (.bool true) = metL g (V ++ [x]) := (metL_set g V x).symm
      rw [e2] at M2
      have c5 : (w.setCell ⟨bm, x, none⟩ (.bool true)).cell? ⟨b5, 0, none⟩ = some (.slice (some ⟨bt, 0, none⟩) g.ns.length g.ns.length) := M2.cell 4 rfl 0 rfl
      obtain ⟨vx, hvx⟩ : ∃ vx, l[x]? = some (vx, cont x) := by
        have hxl : x < l.length := by rw [HLL.out]; exact hx
        have h := HC.out x _ (List.getElem?_eq_getElem hxl)
        exact ⟨l[x].1, by rw [List.getElem?_eq_getElem hxl, ← h]⟩
      have t0 := M2.cellAt 2 rfl x (u := vx) (by rw [List.getElem?_map, hvx]; rfl)
      have hrow := M2.backRow 1 rfl hvx
      obtain ⟨ax, cx, rfl, hcx, hrd⟩ := row_read hrow
      have HVX := Tre.hid hvx
      have hsx := HSZ.out x
      have HKX := Tre.hid (HK.out x hx)
      have i1 : (0 : Int) ≤ x := by omega
      have i2 : (x : Int) < g.ns.length := by omega
      have hvl := nodup_lt_len (nodup_snoc hnd hin) (lt_snoc hlt hx)
      have HN2 := Tre.hid (nodup_snoc hnd hin)
      have HL2 := Tre.hid (lt_snoc hlt hx)
      have HM2 := Tre.hid M2
      rw [List.length_append, List.length_singleton] at hvl
      clear hM M2 e2 hin hnd hlt ih hvx hrow hrd
      go_enter Tryd.func27, Tryd.ntmps27
      go_wp2_with fail
      go_loopw [19] (fun v19 wi => ∃ (i : Nat) (V1 : List Nat), i ≤ (cont x).length ∧ v19 = .int .i64 i ∧ Hid (VL g cont (V ++ [x]) ((cont x).take i) V1) ∧
          Hid (Mem w0 wi (rowR 4 1 (.slice (some ⟨bm, 0, none⟩) g.ns.length g.ns.length) g.ns.length (metL g V1) :: backR l :: rowR 25 1 (.slice (some ⟨bt, 0, none⟩) g.ns.length g.ns.length) g.ns.length (l.map (·.1)) ::
      cellsR bo 41 #[.slice (some ⟨bm, 0, none⟩) g.ns.length g.ns.length] :: cellsR b5 68 #[.slice (some ⟨bt, 0, none⟩) g.ns.length g.ns.length] :: cellsR b11 69 #[.func (.func 27) #[] (visitCaps bo b5 b11)] :: rs)))
        (fun v19 _ => (cont x).length - (intOf v19).toNat)
      case atStart => exact ⟨0, V ++ [x], Nat.zero_le _, rfl, VL.nil HN2.out HL2.out, HM2.out⟩
      case round =>
        obtain ⟨i, V1, hi, rfl, hVL, hI⟩ := hrel
        by_cases hil : i < (cont x).length
        · have hyk := HKX.out _ (List.getElem_mem hil)
          have HTS : Hid ((cont x).take (i + 1) = (cont x).take i ++ [(cont x)[i]]) := take_snoc_n hil
          have hgy : (cont x)[i]? = some (cont x)[i] := List.getElem?_eq_getElem hil
          obtain ⟨a', c', e', _, hrd⟩ := row_read (hI.out.backRow 1 rfl HVX.out)
          cases e'
          obtain ⟨bx, ox, rfl, hcl⟩ := hrd.at_ i (rk (cont x)[i]) (by rw [List.getElem?_map, hgy]; rfl)
          have hcl2 : wr.cell? ⟨bx, ox + i, none⟩ = some (.int .i64 ((cont x)[i] : Int)) := hcl
          generalize (cont x)[i] = y at *
          have c11 : wr.cell? ⟨b11, 0, none⟩ = some (.func (.func 27) #[] (visitCaps bo b5 b11)) := hI.out.cell 5 rfl 0 rfl
          have hbud : g.ns.length - V1.length ≤ fuel := by
            have h1 : (V ++ [x]).length ≤ V1.length := by
              have sub : ∀ (A U : List Nat), A.Nodup → (∀ p ∈ A, p ∈ U) → A.length ≤ U.length := by
                intro A
                induction A with
                | nil => intro U _ _; simp
                | cons p A ih =>
                  intro U hn hs
                  have h1 := List.nodup_cons.1 hn
                  have := ih (U.erase p) h1.2 (fun q hq => (List.mem_erase_of_ne (fun e => h1.1 (by rw [← e]; exact hq))).2 (hs q (by simp [hq])))
                  rw [List.length_erase_of_mem (hs p (by simp))] at this
                  have hp := List.length_pos_of_mem (hs p (by simp))
                  simp only [List.length_cons]
                  omega
              exact sub _ _ HN2.out hVL.out.sub
            rw [List.length_append, List.length_singleton] at h1
            omega
          have CV := IH.out y V1 wr rs hbud hyk.1 hVL.out.nod hVL.out.lt hI.out
          have HCV := Tre.hid CV
          have l1 : (0 : Int) ≤ i := by omega
          have l2 : (i : Int) < (cont x).length := by omega
          clear hcl CV hgy hrd hyk
          go_wp2_with fail
          refine HCV.out.mono ?_
          rintro e w5 ⟨v5, rfl, V2, hv2, m5⟩
          have HV2 := Tre.hid (hVL.out.snoc hv2)
          rw [← HTS.out] at HV2
          have HM6 := Tre.hid m5
          clear m5 hv2
          go_wp2_with fail
          go_roundw
          case rel => exact ⟨i + 1, V2, by omega, by go_num, HV2.out, HM6.out⟩
          case measure => simp [intOf]; omega
        · have et : (cont x).take i = cont x := List.take_of_length_le (by omega)
          have hV' := hVL.out
          rw [et] at hV'
          have HVF := Tre.hid (VL.visit (fun b hb => (HKX.out b hb).2) hV')
          clear et hV'
          go_wp2_with fail
          go_end0
          exact ⟨_, rfl, V1, HVF.out, hI.out⟩
end Go.Proofs.YtlkfhbmjemjohaaDoor.gr
