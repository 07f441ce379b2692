/- slices.DeleteFunc over numbers, a row of the call's own. gen.Fresh's closures. -/
import Derived.Test.YtlkfhbmjemjohaaGreatDoorB20
import Derived.Lib.SliceRun
set_option linter.unusedVariables false
namespace Go.Tre
open Go.RowKit
def setMany (xs : List Value) : Nat → List Value → List Value
 | _, [] => xs
 | o, v :: r => setMany (xs.set o v) (o + 1) r
theorem setMany_take : ∀ (vs xs : List Value) (o k : Nat), k ≤ o → (setMany xs o vs).take k = xs.take k := by
 intro vs
 induction vs with
 | nil => intro xs o k _; rfl
 | cons v r ih =>
  intro xs o k hk
  show (setMany (xs.set o v) (o + 1) r).take k = _
  rw [ih _ _ _ (by omega)]
  apply List.ext_getElem?
  intro m
  rw [List.getElem?_take, List.getElem?_take]
  split
  ·rw [List.getElem?_set_ne (by omega)]
  ·rfl
theorem Mem.setMany {w0 : World} {e : TypeId} {n g cap : Nat} {rs : List Res} (i : Nat) : ∀ (vs xs : List Value) (o : Nat) (w : World), rs[i]? = some (rowR e 1 (.slice (some ⟨g, 0, none⟩) n cap) n xs) → Mem w0 w rs →
  Mem w0 (w.setCells g o vs) (rs.set i (rowR e 1 (.slice (some ⟨g, 0, none⟩) n cap) n (Tre.setMany xs o vs))) := by
 intro vs
 induction vs generalizing rs with
 | nil =>
  intro xs o w hi h
  show Mem w0 w _
  have : rs.set i (rowR e 1 (.slice (some ⟨g, 0, none⟩) n cap) n xs) = rs := set_sameL hi
  rw [show Tre.setMany xs o [] = xs from rfl, this]
  exact h
 | cons v r ih =>
  intro xs o w hi h
  have h1 := h.setRow i hi o v
  have hl := (List.getElem?_eq_some_iff.1 hi).1
  have h2 := ih (rs := rs.set i (rowR e 1 (.slice (some ⟨g, 0, none⟩) n cap) n (xs.set o v))) (xs.set o v) (o + 1) _ (by rw [List.getElem?_set_self hl]) h1
  rw [List.set_set] at h2
  exact h2
theorem ownsRow_front {w : World} {e : TypeId} {n g cap k : Nat} {xs : List Value} (h : w.ownsRow 0 e 1 (.slice (some ⟨g, 0, none⟩) n cap) n xs) (hk : k ≤ n) : w.ownsRow 0 e 1 (.slice (some ⟨g, 0, none⟩) k cap) k (xs.take k) := by
 refine ⟨by rw [List.length_take, h.1]; omega, ?_⟩
 rcases h.2 with ⟨h1, _⟩ | ⟨g', cap', cur, h1, h2, h3, h4, h5, h6, h7⟩
 ·cases h1
 ·cases h1
  refine .inr ⟨g, cap, cur, rfl, h2, h3, by omega, h5, h6, ?_⟩
  rw [← h7, List.take_take]
  congr 1
  omega
theorem Mem.front_ {w0 w : World} {e : TypeId} {n g cap k : Nat} {xs : List Value} {rs : List Res} (h : Mem w0 w rs) (i : Nat) (hi : rs[i]? = some (rowR e 1 (.slice (some ⟨g, 0, none⟩) n cap) n xs)) (hk : k ≤ n) : Mem w0 w (rs.set i (rowR e 1 (.slice (some ⟨g, 0, none⟩) k cap) k (xs.take k))) :=
 h.as_ i hi _ (fun hp => ownsRow_front hp hk) (fun _ hb => hb)
def keptOf (p : Int → Bool) (l : List Nat) (j : Nat) : List Nat := (l.take j).filter fun x => !p (x : Int)
theorem keptOf_succ {p : Int → Bool} {l : List Nat} {j : Nat} (h : j < l.length) : keptOf p l (j + 1) = keptOf p l j ++ if p (l[j] : Int) then [] else [l[j]] := by
 unfold keptOf
 rw [List.take_add_one, List.getElem?_eq_getElem h, List.filter_append]
 congr 1
 cases hp : p (l[j] : Int) <;> simp [hp]
end Go.Tre
namespace Go.Proofs.YtlkfhbmjemjohaaGreatDoor.gr
open Go.RowKit Go.Shelf Go.Maps Go.Tre lex
theorem zin (w : World) : (zeroValue 3).run Tryz.prog w = .ok (.int .i64 0) w := by kernel_rfl
theorem idx_none {p : Int → Bool} {l : List Nat} (h : (l.map fun k : Nat => (k : Int)).any p = false) : keptOf p l l.length = l := by
 unfold keptOf
 rw [List.take_length, List.filter_eq_self]
 intro x hx
 cases hp : p (x : Int)
 ·rfl
 ·rw [List.any_eq_true.2 ⟨(x : Int), List.mem_map.2 ⟨x, hx, rfl⟩, hp⟩] at h; cases h

set_option maxRecDepth 100000 in
set_option maxHeartbeats 8000000 in
theorem deleteInts (F : Nat) (caps : Array Value) (hcf : ∀ (args : Array Value) (w : World), (callFunc F args).run Tryz.prog w = .ok (.enter F args) w) (p : Int → Bool) (w0 w : World) (rs : List Res) (v : Value) (l : List Nat) (hlen : l.length ≤ 4194304)
  (hM : Mem w0 w (rowR 3 1 v l.length (l.map rk) :: rs))
  (hF : ∀ x wx (y : Res), x ∈ l → Mem w0 wx (y :: rs) → Calls Tryz.prog F (#[.int .i64 (x : Int)] ++ caps) wx fun e w' => e = .returned (.bool (p x)) ∧ Below wx.heap.size wx w') :
  Calls Tryz.prog 17 #[v, .func (.func F) #[] caps] w fun e w' => ∃ v', e = .returned v' ∧ Mem w0 w' (rowR 3 1 v' (keptOf p l l.length).length ((keptOf p l l.length).map rk) :: rs) := by
 obtain ⟨a, c, rfl, hc, hrd⟩ := row_read (hM.row 0 rfl)
 have hints : IntsAt w a (l.map fun k : Nat => (k : Int)) := by rw [IntsAt, List.length_map, casts_map]; exact hrd
 have CI := indexInts F caps hcf p a c (l.map fun k : Nat => (k : Int)) w hints (by rw [List.length_map]; omega) (fun x wx hx hb => by
  obtain ⟨m, hm, rfl⟩ := List.mem_map.1 hx
  exact hF m wx _ hm (hM.quiet hb))
 rw [List.length_map] at CI
 have HCI := Tre.hid CI
 have HM := Tre.hid hM
 have HF := Tre.hid hF
 cases hany : (l.map fun k : Nat => (k : Int)).any p
 ·have hix : Hid (idxFunc p (l.map fun k : Nat => (k : Int)) = -1) := by
   show _ = _
   exact idxFunc_miss (fun j hj => by
    cases hp : p (l.map fun k : Nat => (k : Int))[j]
    ·rfl
    ·rw [List.any_eq_true.2 ⟨_, List.getElem_mem hj, hp⟩] at hany; cases hany)
  have HE := Tre.hid (idx_none hany)
  clear hM hF CI hints hrd hany
  go_enter Tryz.func17, Tryz.ntmps17
  go_wp2_with fail
  refine HCI.out.mono ?_
  rintro e w1 ⟨rfl, b1⟩
  rw [hix.out]
  have HM1 := Tre.hid (HM.out.quiet b1)
  clear b1
  go_wp2_with fail
  go_ret
  refine ⟨_, rfl, ?_⟩
  rw [HE.out]
  exact HM1.out
 ·obtain ⟨k, hk, hkx, hix, hbefore⟩ : ∃ k, ∃ hk : k < l.length, p (l[k] : Int) = true ∧ idxFunc p (l.map fun k : Nat => (k : Int)) = (k : Int) ∧ ∀ j (hj : j < l.length), j < k → p (l[j] : Int) = false := by
   have h1 : (l.map fun k : Nat => (k : Int)).findIdx p < (l.map fun k : Nat => (k : Int)).length := by
    obtain ⟨x, hx, hp⟩ := List.any_eq_true.1 hany
    exact List.findIdx_lt_length.2 ⟨x, hx, hp⟩
   have h2 := List.findIdx_getElem (w := h1)
   refine ⟨(l.map fun k : Nat => (k : Int)).findIdx p, by rw [List.length_map] at h1; exact h1, by rw [List.getElem_map] at h2; exact h2, by unfold idxFunc; rw [if_pos h1], fun j hj hjk => ?_⟩
   have := List.not_of_lt_findIdx hjk
   rw [List.getElem_map] at this
   simpa using this
  have hstart : keptOf p l (k + 1) = l.take k := by
   have e : ∀ m, m ≤ k → keptOf p l m = l.take m := fun m => by
    induction m with
    | zero => intro _; rfl
    | succ m ih =>
     intro hm
     rw [keptOf_succ (by omega), ih (by omega), if_neg (by rw [hbefore m (by omega) (by omega)]; simp), take_snoc_n (show m < l.length by omega)]
   rw [keptOf_succ hk, e k (Nat.le_refl _), if_pos hkx, List.append_nil]
  obtain ⟨g, c', e0, _, _⟩ : ∃ g cap, (.slice a l.length c : Value) = .slice (some ⟨g, 0, none⟩) l.length cap ∧ w0.heap.size ≤ g ∧ g < w.heap.size := by
   obtain ⟨n, hn⟩ : ∃ n, l.length = n + 1 := ⟨l.length - 1, by omega⟩
   have h := hM
   rw [hn] at h ⊢
   exact h.pos 0 rfl
  cases e0
  have HIX := Tre.hid hix
  have HST := Tre.hid hstart
  clear hM hF CI hints hrd hany hix hbefore hstart hkx
  go_enter Tryz.func17, Tryz.ntmps17
  go_wp2_with fail
  refine HCI.out.mono ?_
  rintro e w1 ⟨rfl, b1⟩
  rw [HIX.out]
  have HM1 := Tre.hid (HM.out.quiet b1)
  clear b1
  have ek : ((k : Int) == -1) = false := by first | (simp; done) | (simp; omega)
  go_wp2_with fail
  go_loopw [5, 6] (fun v5 v6 wr => ∃ (i j : Nat) (cs : List Value), i < j ∧ j ≤ l.length ∧ v5 = .int .i64 i ∧ v6 = .int .i64 j ∧ cs.length = l.length ∧ Hid ((keptOf p l j).length = i ∧ cs.take i = (keptOf p l j).map rk ∧ ∀ m, j ≤ m → cs[m]? = (l.map rk)[m]?) ∧ Hid (Mem w0 wr (rowR 3 1 (.slice (some ⟨g, 0, none⟩) l.length c) l.length cs :: rs)))
   (fun _ v6 _ => l.length - (intOf v6).toNat)
  case atStart =>
   refine ⟨k, k + 1, l.map rk, by omega, by omega, rfl, by go_num, by simp, ⟨?_, ?_, fun m _ => rfl⟩, HM1.out⟩
   ·rw [HST.out, List.length_take]; omega
   ·rw [HST.out, List.map_take]
  case round =>
   obtain ⟨i, j, cs, hij, hjl, rfl, rfl, hcs, hI, hR⟩ := hrel
   have HCS := Tre.hid hcs
   clear hcs
   by_cases hlt : j < l.length
   ·have hcj : cs[j]? = some (rk l[j]) := by rw [hI.out.2.2 j (Nat.le_refl _), List.getElem?_map, List.getElem?_eq_getElem hlt]; rfl
    have c1 : wr.cell? ⟨g, j, none⟩ = some (.int .i64 (l[j] : Int)) := hR.out.cellAt 0 rfl j hcj
    have hmem := List.getElem_mem hlt
    have HKS := Tre.hid (keptOf_succ (p := p) hlt)
    obtain ⟨u, hu⟩ : ∃ u, cs[i]? = some u := ⟨_, List.getElem?_eq_getElem (by rw [HCS.out]; omega)⟩
    have HU := Tre.hid hu
    generalize l[j] = x at *
    have HCF := Tre.hid (HF.out x wr _ hmem hR.out)
    have i1 : (0 : Int) ≤ (i : Int) := by omega
    have i2 : (i : Int) < (l.length : Int) := by omega
    have j1 : (0 : Int) ≤ (j : Int) := by omega
    have j2 : (j : Int) < (l.length : Int) := by omega
    clear hcj hu hmem
    go_wp2_with fail
    refine HCF.out.mono ?_
    rintro e w2 ⟨rfl, b2⟩
    have HR2 := Tre.hid (hR.out.quiet b2)
    have cI := HR2.out.cellAt 0 rfl i HU.out
    have fI := HR2.out.freeAt 0 rfl i
    clear b2 c1
    cases hp : p (x : Int)
    ·have HK : Hid (keptOf p l (j + 1) = keptOf p l j ++ [x]) := by show _ = _; rw [HKS.out, hp]; simp
     have MS := Tre.hid (HR2.out.setRow 0 rfl i (.int .i64 (x : Int)))
     clear hp
     go_wp2_with fail
     go_roundw
     case rel =>
      refine ⟨i + 1, j + 1, cs.set i (rk x), by omega, by omega, by go_num, by go_num, by rw [List.length_set]; exact HCS.out, ⟨?_, ?_, fun m hm => ?_⟩, MS.out⟩
      ·rw [HK.out, List.length_append, hI.out.1]; rfl
      ·rw [HK.out, List.map_append, ← hI.out.2.1]
       have hil : i < cs.length := by rw [HCS.out]; omega
       rw [List.take_add_one, List.getElem?_set_self hil, List.take_set_of_le (Nat.le_refl _)]
       rfl
      ·rw [List.getElem?_set_ne (by omega)]
       exact hI.out.2.2 m (by omega)
     case measure => simp [intOf]; omega
    ·have HK : Hid (keptOf p l (j + 1) = keptOf p l j) := by show _ = _; rw [HKS.out, hp]; simp
     clear hp
     go_wp2_with fail
     go_roundw
     case rel => exact ⟨i, j + 1, cs, by omega, by omega, rfl, by go_num, HCS.out, ⟨by rw [HK.out]; exact hI.out.1, by rw [HK.out]; exact hI.out.2.1, fun m hm => hI.out.2.2 m (by omega)⟩, HR2.out⟩
     case measure => simp [intOf]; omega
   ·have e : j = l.length := by omega
    subst e
    have hn : l.length ≤ c := hc
    have ec : ¬ c = i := by omega
    have MS := (hR.out.setMany 0 (List.replicate (l.length - i) (.int .i64 0)) cs i wr rfl).front_ 0 rfl (k := i) (by omega)
    have hcl : ∀ ty, (Builtin.clear_ #[31] ty #[.slice (some ⟨g, i, none⟩) (l.length - i) (c - i)]).run Tryz.prog wr = .ok (.tuple #[]) (wr.setCells g i (List.replicate (l.length - i) (.int .i64 0))) := fun ty =>
     Lib.run_clear_slice wr _ _ ty _ Tryz.underlying31 zin rfl rfl g i _ _ (by omega) (fun t ht => by
      rw [hR.out.cellAt 0 rfl (i + t) (List.getElem?_eq_getElem (by rw [HCS.out]; omega))]; rfl) (fun t _ => hR.out.freeAt 0 rfl (i + t))
    have HMS := Tre.hid MS
    have i3 : (i : Int) ≤ (l.length : Int) := by omega
    clear MS
    go_wp2_with fail
    go_ret
    refine ⟨_, rfl, ?_⟩
    have h : Mem w0 _ (rowR 3 1 (.slice (some ⟨g, 0, none⟩) i c) i ((setMany cs i (List.replicate (l.length - i) (.int .i64 0))).take i) :: rs) := HMS.out
    rw [setMany_take _ _ _ _ (Nat.le_refl _), hI.out.2.1] at h
    rw [hI.out.1]
    exact h
end Go.Proofs.YtlkfhbmjemjohaaGreatDoor.gr
namespace Go.Tre
def toMap (n : Nat) (C : List Nat) (k : Nat) : Nat → Option Nat := fun x => if x ∈ C.take k then some (n + C.idxOf x) else none
theorem toMap_zero (n : Nat) (C : List Nat) : toMap n C 0 = fun _ => none := by funext x; simp [toMap]
theorem toMap_succ {n : Nat} {C : List Nat} (hn : C.Nodup) {k : Nat} (h : k < C.length) : upd (toMap n C k) C[k] (n + k) = toMap n C (k + 1) := by
 funext x
 have h1 := congrFun (idxMap_succ hn h) x
 unfold upd idxMap at h1
 unfold upd toMap
 by_cases hx : x = C[k]
 ·rw [if_pos hx, if_pos (by rw [hx, take_snoc_n h]; exact List.mem_append.2 (.inr (List.mem_singleton.2 rfl))), hx, idxOf_nodup hn h]
 ·rw [if_neg hx]
  have : (x ∈ C.take (k + 1)) = (x ∈ C.take k) := by rw [take_snoc_n h, List.mem_append, List.mem_singleton]; simp only [hx, or_false]
  simp only [this]
theorem toMap_yes {n : Nat} {C : List Nat} {x : Nat} (h : x ∈ C) : toMap n C C.length x = some (n + C.idxOf x) := by unfold toMap; rw [List.take_length, if_pos h]
theorem toMap_no {n : Nat} {C : List Nat} {x : Nat} (h : x ∉ C) : toMap n C C.length x = none := by unfold toMap; rw [List.take_length, if_neg h]
end Go.Tre
namespace Go.Proofs.YtlkfhbmjemjohaaGreatDoor.gr
open Go.RowKit Go.Shelf Go.Maps Go.Tre lex
theorem hcfI (args : Array Value) (w : World) : (callFunc 19 args).run Tryz.prog w = .ok (.enter 19 args) w := by kernel_rfl
theorem isnt (x n : Nat) (b8 bm c : Nat) (b : Bool) (w : World) (h8 : w.cell? ⟨b8, 0, none⟩ = some (.slice (some ⟨bm, 0, none⟩) n c)) (hx : x < n) (hm : w.cell? ⟨bm, x, none⟩ = some (.bool b)) :
  Calls Tryz.prog 19 #[.int .i64 (x : Int), .pointer (some ⟨b8, 0, none⟩)] w fun e w' => e = .returned (.bool (!b)) ∧ Below w.heap.size w w' := by
 have i1 : (0 : Int) ≤ (x : Int) := by omega
 have i2 : (x : Int) < (n : Int) := by omega
 cases b
 all_goals
  go_enter Tryz.func19, Tryz.ntmps19
  go_wp2_with fail
  go_ret
  exact ⟨rfl, Below.refl _ _⟩
set_option maxHeartbeats 1000000 in
theorem now_any (x n : Nat) (C : List Nat) (b10 bm N : Nat) (w : World) (h10 : w.cell? ⟨b10, 0, none⟩ = some (.map (some bm))) (hm : MapIs Tryz.prog 3 en en w bm N (toMap n C C.length)) (hx : x ≤ 8388608) :
  Calls Tryz.prog 20 #[.int .i64 (x : Int), .pointer (some ⟨b10, 0, none⟩)] w fun e w' => e = .returned (.int .i64 ((nowF n C x : Nat) : Int)) ∧ Below w.heap.size w w' := by
 have HM := Tre.hid hm
 clear hm
 by_cases h : x ∈ C
 ·have HY := Tre.hid (toMap_yes (n := n) h)
  have HN : Hid (nowF n C x = n + C.idxOf x) := by show _ = _; unfold nowF; rw [if_pos h]
  clear h
  go_enter Tryz.func20, Tryz.ntmps20
  go_wp2_with (refine wpList_look_some rfl _ _ 54 rfl 3 KI injN Tryz.underlying54 (zi _) rfl HM.out x rfl (kn x hx) (n + C.idxOf x) HY.out ?_)
  go_ret
  exact ⟨ret_int (by rw [HN.out]), Below.refl _ _⟩
 ·have HY := Tre.hid (toMap_no (n := n) h)
  have HN : Hid (nowF n C x = x) := by show _ = _; unfold nowF; rw [if_neg h]
  clear h
  go_enter Tryz.func20, Tryz.ntmps20
  go_wp2_with (refine wpList_look_none rfl _ _ 54 rfl 3 KI injN Tryz.underlying54 (zi _) rfl HM.out x rfl (kn x hx) HY.out ?_)
  go_ret
  exact ⟨ret_int (by rw [HN.out]), Below.refl _ _⟩
end Go.Proofs.YtlkfhbmjemjohaaGreatDoor.gr
