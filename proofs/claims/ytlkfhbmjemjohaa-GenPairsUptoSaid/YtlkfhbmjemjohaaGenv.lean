/- gen.general's visit. -/
import Derived.Test.YtlkfhbmjemjohaaBackr
namespace Go.Proofs.Ytlkfhbmjemjohaa.gr
open Go.RowKit Go.Shelf Go.Maps Go.Tre lex
abbrev visitCaps (bo b5 b11 : Nat) : Array Value := #[.pointer (some ⟨bo, 0, none⟩), .pointer (some ⟨b5, 0, none⟩), .pointer (some ⟨b11, 0, none⟩)]

set_option maxRecDepth 100000 in
set_option maxHeartbeats 8000000 in
theorem visitG (g : Tre.Graph) (w0 : World) (bm bt bo b5 b11 : Nat) (l : List (Value × List Nat)) (cont : Nat → List Nat) (hl : l.length = g.ns.length) (hc : ∀ y p, l[y]? = some p → p.2 = cont y) (hk : ∀ y, y < g.ns.length → ∀ b ∈ cont y, b < g.ns.length ∧ y ∈ g.kids b) (hsz : ∀ y, (cont y).length ≤ 4194304) :
    ∀ (fuel : Nat) (x : Nat) (V : List Nat) (w : World) (rs : List Res), g.ns.length - V.length ≤ fuel → x < g.ns.length → V.Nodup → (∀ y ∈ V, y < g.ns.length) →
    Mem w0 w (rowR 4 1 (.slice (some ⟨bm, 0, none⟩) g.ns.length g.ns.length) g.ns.length (metL g V) :: backR l :: rowR 25 1 (.slice (some ⟨bt, 0, none⟩) g.ns.length g.ns.length) g.ns.length (l.map (·.1)) ::
      cellsR bo 52 #[.slice (some ⟨bm, 0, none⟩) g.ns.length g.ns.length] :: cellsR b5 69 #[.slice (some ⟨bt, 0, none⟩) g.ns.length g.ns.length] :: cellsR b11 70 #[.func (.func 41) #[] (visitCaps bo b5 b11)] :: rs) →
    Calls Try.prog 41 (#[.int .i64 (x : Int)] ++ visitCaps bo b5 b11) w fun e w' => ∃ v, e = .returned v ∧ ∃ V', VL g cont V [x] V' ∧
      Mem w0 w' (rowR 4 1 (.slice (some ⟨bm, 0, none⟩) g.ns.length g.ns.length) g.ns.length (metL g V') :: backR l :: rowR 25 1 (.slice (some ⟨bt, 0, none⟩) g.ns.length g.ns.length) g.ns.length (l.map (·.1)) ::
      cellsR bo 52 #[.slice (some ⟨bm, 0, none⟩) g.ns.length g.ns.length] :: cellsR b5 69 #[.slice (some ⟨bt, 0, none⟩) g.ns.length g.ns.length] :: cellsR b11 70 #[.func (.func 41) #[] (visitCaps bo b5 b11)] :: rs) := by
  have HLL := Tre.hid hl
  have HC := Tre.hid hc
  have HK := Tre.hid hk
  have HSZ := Tre.hid hsz
  clear hl hc hk hsz
  intro fuel
  induction fuel with
  | zero =>
    intro x V w rs hb hx hnd hlt hM
    have hin : x ∈ V := by
      by_cases h : x ∈ V
      · exact h
      · have := nodup_lt_len (nodup_snoc hnd h) (lt_snoc hlt hx)
        simp at this
        omega
    have m0 := hM.cellAt 0 rfl x (u := .bool true) (by rw [metL, List.getElem?_map, List.getElem?_range hx]; simp [hin])
    have c0 := hM.cell 3 rfl 0 rfl
    have i1 : (0 : Int) ≤ x := by omega
    have i2 : (x : Int) < g.ns.length := by omega
    have HM1 := Tre.hid hM
    have HV := Tre.hid (VL.skip (cont := cont) hnd hlt hin)
    clear hM hin hnd hlt
    go_enter Try.func41, Try.ntmps41
    go_wp2_with fail
    refine bodyPost_ret (v := .tuple #[]) (by simp [results, Try.results41, go_sem]) rfl ⟨_, rfl, V, HV.out, HM1.out⟩
  | succ fuel ih =>
    intro x V w rs hb hx hnd hlt hM
    by_cases hin : x ∈ V
    · have m0 := hM.cellAt 0 rfl x (u := .bool true) (by rw [metL, List.getElem?_map, List.getElem?_range hx]; simp [hin])
      have c0 := hM.cell 3 rfl 0 rfl
      have i1 : (0 : Int) ≤ x := by omega
      have i2 : (x : Int) < g.ns.length := by omega
      have HM1 := Tre.hid hM
      have HV := Tre.hid (VL.skip (cont := cont) hnd hlt hin)
      clear hM hin hnd hlt ih
      go_enter Try.func41, Try.ntmps41
      go_wp2_with fail
      refine bodyPost_ret (v := .tuple #[]) (by simp [results, Try.results41, go_sem]) rfl ⟨_, rfl, V, HV.out, HM1.out⟩
    · have IH := Tre.hid ih
      have m0 := hM.cellAt 0 rfl x (u := .bool false) (by rw [metL, List.getElem?_map, List.getElem?_range hx]; simp [hin])
      have mf := hM.freeAt 0 rfl x
      have c0 : w.cell? ⟨bo, 0, none⟩ = some (.slice (some ⟨bm, 0, none⟩) g.ns.length g.ns.length) := hM.cell 3 rfl 0 rfl
      have M2 := hM.setRow 0 rfl x (.bool true)
      have e2 : (metL g V).set x (.bool true) = metL g (V ++ [x]) := (metL_set g V x).symm
      rw [e2] at M2
      have c5 : (w.setCell ⟨bm, x, none⟩ (.bool true)).cell? ⟨b5, 0, none⟩ = some (.slice (some ⟨bt, 0, none⟩) g.ns.length g.ns.length) := M2.cell 4 rfl 0 rfl
      obtain ⟨vx, hvx⟩ : ∃ vx, l[x]? = some (vx, cont x) := by
        have hxl : x < l.length := by rw [HLL.out]; exact hx
        have h := HC.out x _ (List.getElem?_eq_getElem hxl)
        exact ⟨l[x].1, by rw [List.getElem?_eq_getElem hxl, ← h]⟩
      have t0 := M2.cellAt 2 rfl x (u := vx) (by rw [List.getElem?_map, hvx]; rfl)
      have hrow := M2.backRow 1 rfl hvx
      obtain ⟨ax, cx, rfl, hcx, hrd⟩ := row_read hrow
      have HVX := Tre.hid hvx
      have hsx := HSZ.out x
      have HKX := Tre.hid (HK.out x hx)
      have i1 : (0 : Int) ≤ x := by omega
      have i2 : (x : Int) < g.ns.length := by omega
      have hvl := nodup_lt_len (nodup_snoc hnd hin) (lt_snoc hlt hx)
      have HN2 := Tre.hid (nodup_snoc hnd hin)
      have HL2 := Tre.hid (lt_snoc hlt hx)
      have HM2 := Tre.hid M2
      rw [List.length_append, List.length_singleton] at hvl
      clear hM M2 e2 hin hnd hlt ih hvx hrow hrd
      go_enter Try.func41, Try.ntmps41
      go_wp2_with fail
      go_loopw [19] (fun v19 wi => ∃ (i : Nat) (V1 : List Nat), i ≤ (cont x).length ∧ v19 = .int .i64 i ∧ Hid (VL g cont (V ++ [x]) ((cont x).take i) V1) ∧
          Hid (Mem w0 wi (rowR 4 1 (.slice (some ⟨bm, 0, none⟩) g.ns.length g.ns.length) g.ns.length (metL g V1) :: backR l :: rowR 25 1 (.slice (some ⟨bt, 0, none⟩) g.ns.length g.ns.length) g.ns.length (l.map (·.1)) ::
      cellsR bo 52 #[.slice (some ⟨bm, 0, none⟩) g.ns.length g.ns.length] :: cellsR b5 69 #[.slice (some ⟨bt, 0, none⟩) g.ns.length g.ns.length] :: cellsR b11 70 #[.func (.func 41) #[] (visitCaps bo b5 b11)] :: rs)))
        (fun v19 _ => (cont x).length - (intOf v19).toNat)
      case atStart => exact ⟨0, V ++ [x], Nat.zero_le _, rfl, VL.nil HN2.out HL2.out, HM2.out⟩
      case round =>
        obtain ⟨i, V1, hi, rfl, hVL, hI⟩ := hrel
        by_cases hil : i < (cont x).length
        · have hyk := HKX.out _ (List.getElem_mem hil)
          have HTS : Hid ((cont x).take (i + 1) = (cont x).take i ++ [(cont x)[i]]) := take_snoc_n hil
          have hgy : (cont x)[i]? = some (cont x)[i] := List.getElem?_eq_getElem hil
          obtain ⟨a', c', e', _, hrd⟩ := row_read (hI.out.backRow 1 rfl HVX.out)
          cases e'
          obtain ⟨bx, ox, rfl, hcl⟩ := hrd.at_ i (rk (cont x)[i]) (by rw [List.getElem?_map, hgy]; rfl)
          have hcl2 : wr.cell? ⟨bx, ox + i, none⟩ = some (.int .i64 ((cont x)[i] : Int)) := hcl
          generalize (cont x)[i] = y at *
          have c11 : wr.cell? ⟨b11, 0, none⟩ = some (.func (.func 41) #[] (visitCaps bo b5 b11)) := hI.out.cell 5 rfl 0 rfl
          have hbud : g.ns.length - V1.length ≤ fuel := by
            have h1 : (V ++ [x]).length ≤ V1.length := by
              have sub : ∀ (A U : List Nat), A.Nodup → (∀ p ∈ A, p ∈ U) → A.length ≤ U.length := by
                intro A
                induction A with
                | nil => intro U _ _; simp
                | cons p A ih =>
                  intro U hn hs
                  have h1 := List.nodup_cons.1 hn
                  have := ih (U.erase p) h1.2 (fun q hq => (List.mem_erase_of_ne (fun e => h1.1 (by rw [← e]; exact hq))).2 (hs q (by simp [hq])))
                  rw [List.length_erase_of_mem (hs p (by simp))] at this
                  have hp := List.length_pos_of_mem (hs p (by simp))
                  simp only [List.length_cons]
                  omega
              exact sub _ _ HN2.out hVL.out.sub
            rw [List.length_append, List.length_singleton] at h1
            omega
          have CV := IH.out y V1 wr rs hbud hyk.1 hVL.out.nod hVL.out.lt hI.out
          have HCV := Tre.hid CV
          have l1 : (0 : Int) ≤ i := by omega
          have l2 : (i : Int) < (cont x).length := by omega
          clear hcl CV hgy hrd hyk
          go_wp2_with fail
          refine HCV.out.mono ?_
          rintro e w5 ⟨v5, rfl, V2, hv2, m5⟩
          have HV2 := Tre.hid (hVL.out.snoc hv2)
          rw [← HTS.out] at HV2
          have HM6 := Tre.hid m5
          clear m5 hv2
          go_wp2_with fail
          go_roundw
          case rel => exact ⟨i + 1, V2, by omega, by go_num, HV2.out, HM6.out⟩
          case measure => simp [intOf]; omega
        · have et : (cont x).take i = cont x := List.take_of_length_le (by omega)
          have hV' := hVL.out
          rw [et] at hV'
          have HVF := Tre.hid (VL.visit (fun b hb => (HKX.out b hb).2) hV')
          clear et hV'
          go_wp2_with fail
          go_end0
          exact ⟨_, rfl, V1, HVF.out, hI.out⟩
end Go.Proofs.Ytlkfhbmjemjohaa.gr
