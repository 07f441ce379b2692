/- strings: (*byteStringReplacer).Replace, at the three bytes that lex.Put has replaced by two each. -/
import Derived.Test.YtcpcheengfgpaaaGreatDoorB00
import Derived.Test.YtcpcheengfgpaaaGreatDoorChecked
import Derived.Test.YtcpcheengfgpaaaGreatDoorShelf
import Derived.Laws.IdiomCopy
import Derived.Laws.IdiomStrings
import Derived.Test.YtcpcheengfgpaaaGreatDoorB01
import Derived.Laws.OwnMore
set_option linter.unusedVariables false
namespace Go.Tre
open Go.RowKit
def specB (b : UInt8) : Bool := b == 10 || (b == 34 || b == 92)
def specN (l : List UInt8) : Nat := (l.filter specB).length
theorem specN_le (l : List UInt8) : specN l ≤ l.length := List.length_filter_le ..
theorem specN_counts : ∀ l : List UInt8, l.count 10 + l.count 34 + l.count 92 = specN l
  | [] => rfl
  | b :: r => by
    have ih := specN_counts r
    simp only [List.count_cons, specN, List.filter_cons]
    unfold specN at ih
    by_cases h1 : b = 10
    · subst h1; simp [specB]; omega
    · by_cases h2 : b = 34
      · subst h2; simp [specB]; omega
      · by_cases h3 : b = 92
        · subst h3; simp [specB]; omega
        · have : specB b = false := by simp [specB, h1, h2, h3]
          simp [this, h1, h2, h3]; omega
theorem specN_succ {l : List UInt8} {k : Nat} (h : k < l.length) : specN (l.take (k + 1)) = specN (l.take k) + (if specB l[k] then 1 else 0) := by
  unfold specN
  rw [List.take_add_one, List.getElem?_eq_getElem h, List.filter_append, List.length_append]
  simp only [Option.toList_some, List.filter_cons, List.filter_nil]
  split <;> rfl
theorem specN_take_le (l : List UInt8) (k : Nat) : specN (l.take k) ≤ specN l := by
  unfold specN
  exact (List.Sublist.filter _ (List.take_sublist ..)).length_le
/-- how often the first of the three bytes stand in a text -/
def cntK (l : List UInt8) : Nat → Nat
  | 0 => 0
  | 1 => l.count 10
  | 2 => l.count 10 + l.count 34
  | _ + 3 => l.count 10 + l.count 34 + l.count 92
def topK : Nat → UInt8
  | 0 => 10
  | 1 => 34
  | _ + 2 => 92
theorem cntK_succ (l : List UInt8) : ∀ k, k < 3 → cntK l (k + 1) = cntK l k + l.count (topK k)
  | 0, _ => by simp [cntK, topK]
  | 1, _ => rfl
  | 2, _ => rfl
  | k + 3, h => by omega
theorem cntK_le (l : List UInt8) (k : Nat) : cntK l k ≤ specN l := by
  rw [← specN_counts]
  match k with
  | 0 => simp [cntK]
  | 1 => simp only [cntK]; omega
  | 2 => simp only [cntK]; omega
  | k + 3 => simp only [cntK]; omega
theorem topK_spec : ∀ k, specB (topK k) = true
  | 0 => rfl
  | 1 => rfl
  | _ + 2 => rfl
/-- the second byte of a byte's replacement -/
def newB (b : UInt8) : UInt8 := if b = 10 then 110 else b
/-- a text, the three bytes replaced -/
def escB : List UInt8 → List UInt8
  | [] => []
  | b :: r => (if specB b then [92, newB b] else [b]) ++ escB r
theorem escB_app : ∀ l r : List UInt8, escB (l ++ r) = escB l ++ escB r
  | [], _ => rfl
  | b :: l, r => by rw [List.cons_append, escB, escB, escB_app l r, List.append_assoc]
theorem escB_take {l : List UInt8} {k : Nat} (h : k < l.length) : escB (l.take (k + 1)) = escB (l.take k) ++ (if specB l[k] then [92, newB l[k]] else [l[k]]) := by
  rw [List.take_add_one, List.getElem?_eq_getElem h, escB_app, Option.toList_some, escB, escB, List.append_nil]
theorem escB_len : ∀ l : List UInt8, (escB l).length = l.length + specN l
  | [] => rfl
  | b :: l => by
    have ih := escB_len l
    unfold specN at ih ⊢
    rw [escB, List.length_append, ih, List.filter_cons, List.length_cons]
    split
    · rw [List.length_cons, List.length_cons, List.length_cons, List.length_nil]; omega
    · rw [List.length_cons, List.length_nil]; omega
theorem escB_none : ∀ {l : List UInt8}, specN l = 0 → escB l = l
  | [], _ => rfl
  | b :: l, h => by
    unfold specN at h
    rw [List.filter_cons] at h
    split at h
    · simp at h
    · rename_i hb
      rw [escB, if_neg hb, escB_none (l := l) h]; rfl
theorem set_take {xs A : List UInt8} {m : Nat} {b : UInt8} (h : xs.take m = A) (hm : m < xs.length) : (xs.set m b).take (m + 1) = A ++ [b] := by
  rw [List.take_add_one, List.take_set_of_le (Nat.le_refl _), h, List.getElem?_set_self hm]; rfl
theorem esc_size {s s' : ByteArray} (h : Hid (s'.data.toList = escB s.data.toList)) : s'.size ≤ s.size + s.size := by
  have h1 := congrArg List.length h.out
  rw [escB_len] at h1
  have h2 := specN_le s.data.toList
  have e1 : s'.data.toList.length = s'.size := rfl
  have e2 : s.data.toList.length = s.size := rfl
  omega
/-- the replacer in memory -/
structure RepAt (w : World) (R : Nat) : Prop where
  no : ∀ b : UInt8, specB b = false → w.cell? ⟨R, b.toNat, none⟩ = some (.slice none 0 0)
  yes : ∀ b : UInt8, specB b = true → ∃ (g o c : Nat) (x y : UInt8), w.cell? ⟨R, b.toNat, none⟩ = some (.slice (some ⟨g, o, none⟩) 2 c) ∧ 2 ≤ c ∧ w.cell? ⟨g, o, none⟩ = some (.int .u8 (x.toNat : Int)) ∧ w.cell? ⟨g, o + 1, none⟩ = some (.int .u8 (y.toNat : Int)) ∧ Hid (x = 92 ∧ y = newB b)
  top : ∃ gT cT, w.cell? ⟨R, 256, none⟩ = some (.slice (some ⟨gT, 0, none⟩) 3 cT) ∧ w.cell? ⟨gT, 0, none⟩ = some (.string ⟨#[10]⟩) ∧ w.cell? ⟨gT, 1, none⟩ = some (.string ⟨#[34]⟩) ∧ w.cell? ⟨gT, 2, none⟩ = some (.string ⟨#[92]⟩)
theorem RepAt.below {w w' : World} {R : Nat} (h : RepAt w R) (b : Below w.heap.size w w') : RepAt w' R :=
  ⟨fun x hx => cell_below b (h.no x hx), fun x hx => by obtain ⟨g, o, c, x', y, h1, h2, h3, h4, h5⟩ := h.yes x hx; exact ⟨g, o, c, x', y, cell_below b h1, h2, cell_below b h3, cell_below b h4, h5⟩,
    by obtain ⟨gT, cT, h1, h2, h3, h4⟩ := h.top; exact ⟨gT, cT, cell_below b h1, cell_below b h2, cell_below b h3, cell_below b h4⟩⟩
end Go.Tre
namespace Go.Proofs.YtcpcheengfgpaaaGreatDoor.rep
open Go.RowKit Go.Tre
abbrev ub (b : UInt8) : Value := .int .u8 (b.toNat : Int)
theorem map_ub (xs : List UInt8) (j : Nat) (b : UInt8) : (xs.map ub).set j (.int .u8 (b.toNat : Int)) = (xs.set j b).map ub := by rw [List.map_set]
theorem infoU : (Tryz.prog.info? 5).map (fun i => (i.zero, i.size, i.bytes)) = some (some (.int .u8 0), 1, 1) := by kernel_rfl
theorem made_u8 (w : World) (n : Nat) (hn : n ≤ 16777216) : ∃ wm, (Instr.makeSlice 100 (.int .i64 (n : Int)) (.int .i64 (n : Int))).run Tryz.prog w = .ok (.slice (some ⟨w.heap.size, 0, none⟩) n n) wm ∧
    ∀ (w0 : World) (rs : List Res), Mem w0 w rs → Mem w0 wm (rowR 5 1 (.slice (some ⟨w.heap.size, 0, none⟩) n n) n ((List.replicate n 0).map ub) :: rs) := by
  have h := infoU
  obtain ⟨ti, T1, hq⟩ := Option.map_eq_some_iff.1 h
  rw [Prod.mk.injEq, Prod.mk.injEq] at hq
  obtain ⟨T2, T3, T4⟩ := hq
  obtain ⟨wm, hmk, hmo, hmg⟩ := run_make_full (P := Tryz.prog) w 0 100 5 ti _ 1 Tryz.underlying100 T1 T2 T3 .i64 .i64 n (by rw [T4]; omega) (by unfold maxLen; omega) (Nat.zero_le _)
  refine ⟨wm, hmk, fun w0 rs M => ?_⟩
  have e9 : (madeCells (Value.int .u8 0).cells (n * 1)).toList = (List.replicate n 0).map ub := by
    rw [show (Value.int .u8 0).cells = #[Value.int .u8 0] from rfl, toList_madeCells_one, Nat.mul_one, List.map_replicate]; rfl
  rw [e9] at hmo
  exact M.add hmg (rowR 5 1 _ n _) hmo (fun b hb => by have : some w.heap.size = some b := hb; cases this; exact Nat.le_refl _)
theorem copy_two (w : World) (ty : TypeId) (gB j n g o c : Nat) (x y : UInt8) (hn : 2 ≤ n) (hx : w.cell? ⟨g, o, none⟩ = some (.int .u8 (x.toNat : Int))) (hy : w.cell? ⟨g, o + 1, none⟩ = some (.int .u8 (y.toNat : Int))) {u v : Value} (h0 : w.cell? ⟨gB, j, none⟩ = some u) (h1 : w.cell? ⟨gB, j + 1, none⟩ = some v) (f0 : w.frozen? ⟨gB, j, none⟩ = false) (f1 : w.frozen? ⟨gB, j + 1, none⟩ = false) :
    (Builtin.copy_ #[100, 100] ty #[.slice (some ⟨gB, j, none⟩) n n, .slice (some ⟨g, o, none⟩) 2 c]).run Tryz.prog w = .ok (.int .i64 2) ((w.setCell ⟨gB, j, none⟩ (.int .u8 (x.toNat : Int))).setCell ⟨gB, j + 1, none⟩ (.int .u8 (y.toNat : Int))) := by
  have h := run_copy_cells (P := Tryz.prog) w 100 100 ty 5 gB j n n ⟨g, o, none⟩ 2 c [.int .u8 (x.toNat : Int), .int .u8 (y.toNat : Int)] Tryz.underlying100 (by kernel_rfl) (by
      show 2 = min 2 n; omega) (fun i v hv => by
      match i, hv with
      | 0, hv => cases hv; exact hx
      | 1, hv => cases hv; exact hy) (fun i hi => by
      match i, hi with
      | 0, _ => rw [Nat.add_zero, h0]; rfl
      | 1, _ => rw [h1]; rfl) (fun i hi => by
      match i, hi with
      | 0, _ => exact f0
      | 1, _ => exact f1) (by simp [Value.oneCell'])
  exact h
theorem ne_some (ad : Addr) (n c : Nat) (W : World) : (Go.binOp BinOp.neq 100 (.slice (some ad) n c) (.slice none 0 0)).run Tryz.prog W = .ok (.bool true) W := by kernel_rfl
theorem ne_none (W : World) : (Go.binOp BinOp.neq 100 (.slice none 0 0) (.slice none 0 0)).run Tryz.prog W = .ok (.bool false) W := by kernel_rfl
set_option maxRecDepth 100000 in
set_option maxHeartbeats 8000000 in
theorem replace_any (R : Nat) (s : ByteArray) (w : World) (hr : RepAt w R) (hs : s.size ≤ 4194304) :
    Calls Tryz.prog 184 #[.pointer (some ⟨R, 0, none⟩), .string s] w fun e w' => ∃ s' : ByteArray, e = .returned (.string s') ∧ Hid (s'.data.toList = escB s.data.toList) ∧ Below w.heap.size w w' := by
  have HR := Tre.hid hr
  obtain ⟨gT, cT, t0, t1, t2, t3⟩ := hr.top
  clear hr
  by_cases hlen : s.size < 24
  · go_enter Tryz.func184, Tryz.ntmps184
    go_wp2_with fail
    clear t0 t1 t2 t3
    go_loopw [5, 6, 10] (fun v5 v6 v10 wr => ∃ k : Nat, k ≤ s.size ∧ v10 = .int .i64 k ∧ v5 = .int .i64 ((s.size + specN (s.data.toList.take k) : Nat) : Int) ∧ v6 = .bool (decide (0 < specN (s.data.toList.take k))) ∧ Hid (Below w.heap.size w wr))
      (fun _ _ v10 _ => s.size - (intOf v10).toNat)
    case atStart => exact ⟨0, Nat.zero_le _, rfl, rfl, rfl, Below.refl _ _⟩
    case round =>
    obtain ⟨k, hk, rfl, rfl, rfl, HB⟩ := hrel
    have hsz : s.data.toList.length = s.size := by rw [Array.length_toList]; rfl
    have hn := specN_le (s.data.toList.take k)
    rw [List.length_take, hsz] at hn
    by_cases hlt : k < s.size
    · have hkl : k < s.data.toList.length := by rw [hsz]; exact hlt
      have HT := Tre.hid (specN_succ hkl)
      generalize specN (s.data.toList.take k) = q at *
      have HR2 := Tre.hid (HR.out.below HB.out)
      have hgk : s.data.toList[k] = s[k] := by rw [Array.getElem_toList]; rfl
      rw [hgk] at HT
      have hb8 : s[k].toNat < 256 := s[k].toNat_lt
      have e1 := ne_some
      have e0 := ne_none
      clear hsz hgk
      cases hsp : specB s[k]
      · have c0 := HR2.out.no _ hsp
        have HT2 : Hid (specN (s.data.toList.take (k + 1)) = q) := by have h := HT.out; rw [hsp] at h; exact h
        clear hsp HT
        go_wp2_with fail
        go_roundw
        case rel => exact ⟨k + 1, by omega, by go_num, by rw [HT2.out], by rw [HT2.out], HB⟩
        case measure => simp [intOf]; omega
      · obtain ⟨g, o, c, x, y, c0, hc2, c1, c2, _⟩ := HR2.out.yes _ hsp
        have HT2 : Hid (specN (s.data.toList.take (k + 1)) = q + 1) := by have h := HT.out; rw [hsp] at h; exact h
        have hw : IntKind.i64.wrap ((s.size : Int) + (q : Int) + 1) = (s.size : Int) + (q : Int) + 1 := IntWalk.i64_in _ ⟨by omega, by omega⟩
        clear hsp HT c1 c2
        go_wp2_with fail
        go_roundw
        case rel => exact ⟨k + 1, by omega, by go_num, by rw [HT2.out]; go_num, by rw [HT2.out]; simp, HB⟩
        case measure => simp [intOf]; omega
    · have e : k = s.size := by omega
      subst e
      rw [List.take_of_length_le (by rw [hsz]; exact Nat.le_refl _)]
      clear hsz hn
      have HR2 : Hid True := trivial
      have hTn := specN_le s.data.toList
      rw [Array.length_toList] at hTn
      have hTn2 : s.data.size = s.size := rfl
      rw [hTn2] at hTn
      clear hTn2
      obtain ⟨T, hTT⟩ : ∃ T, specN s.data.toList = T := ⟨_, rfl⟩
      rw [hTT] at hTn ⊢
      have HTT := Tre.hid hTT
      clear hTT
      clear HR2
      have HTS : Hid (∀ k, specN (s.data.toList.take k) ≤ T) := fun k => by have h := specN_take_le s.data.toList k; rw [HTT.out] at h; exact h
      by_cases hT : T = 0
      · have hd : decide (0 < T) = false := by simp [hT]
        rw [hd]
        have hT0 := Tre.hid hT
        clear hd hT
        go_wp2_with fail
        go_ret
        exact ⟨s, rfl, by show _ = _; rw [escB_none (HTT.out.trans hT0.out)], HB.out⟩
      · have hd : decide (0 < T) = true := by simp; omega
        rw [hd]
        clear hd
        obtain ⟨wm, hmk, hmem⟩ := made_u8 wr (s.size + T) (by omega)
        have M0 := hmem _ _ (Mem.of_below HB.out)
        rw [Int.natCast_add] at hmk
        have HM0 := Tre.hid M0
        generalize hgB : wr.heap.size = gB at *
        clear M0 hmem
        go_wp2_with fail
        clear hmk hgB
        obtain ⟨N, hN⟩ : ∃ N, s.size + T = N := ⟨_, rfl⟩
        rw [hN] at HM0 ⊢
        have HN := Tre.hid hN
        have hNb : N ≤ 16777216 := by omega
        go_loopw [13, 14] (fun v13 v14 wr => ∃ (i : Nat) (xs : List UInt8), i ≤ s.size ∧ v13 = .int .i64 ((i + specN (s.data.toList.take i) : Nat) : Int) ∧ v14 = .int .i64 i ∧ Hid (xs.length = N ∧ xs.take (i + specN (s.data.toList.take i)) = escB (s.data.toList.take i)) ∧ Hid (Mem w wr [rowR 5 1 (.slice (some ⟨gB, 0, none⟩) N N) N (xs.map ub)]))
          (fun _ v14 _ => s.size - (intOf v14).toNat)
        case atStart => exact ⟨0, List.replicate N 0, Nat.zero_le _, rfl, rfl, ⟨by simp, by simp [escB, specN]⟩, HM0.out⟩
        case round =>
        clear HM0
        obtain ⟨i, xs, hi, rfl, rfl, HXL, HM⟩ := hrel
        by_cases hlt2 : i < s.size
        · have hil : i < s.data.toList.length := by rw [Array.length_toList]; exact hlt2
          have HT3 := specN_succ hil
          have hgi : s.data.toList[i] = s[i] := by rw [Array.getElem_toList]; rfl
          rw [hgi] at HT3
          have HE3 := escB_take hil
          rw [hgi] at HE3
          have hle := HTS.out i
          have hle2 := HTS.out (i + 1)
          generalize specN (s.data.toList.take i) = q at *
          have HR2 := Tre.hid (HR.out.below HM.out.below)
          have hb8 : s[i].toNat < 256 := s[i].toNat_lt
          have e1 := ne_some
          have e0 := ne_none
          clear hgi hN
          cases hsp : specB s[i]
          · have c0 := HR2.out.no _ hsp
            have HT2 : Hid (specN (s.data.toList.take (i + 1)) = q) := by rw [hsp] at HT3; exact HT3
            have HE2 : Hid (escB (s.data.toList.take (i + 1)) = escB (s.data.toList.take i) ++ [s[i]]) := by rw [hsp] at HE3; exact HE3
            have hj : i + q < N := by rw [← HN.out]; omega
            obtain ⟨u, hu⟩ : ∃ u, xs[i + q]? = some u := ⟨_, List.getElem?_eq_getElem (by rw [HXL.out.1]; exact hj)⟩
            have k0 : wr.cell? ⟨gB, i + q, none⟩ = some (ub u) := HM.out.cellAt 0 rfl _ (by rw [List.getElem?_map, hu]; rfl)
            have f0 := HM.out.freeAt 0 rfl (i + q)
            have HM2 := Tre.hid (HM.out.setRow 0 rfl (i + q) (.int .u8 (s[i].toNat : Int)))
            clear hsp HT3 HE3 hu hle hle2
            go_wp2_with fail
            go_roundw
            case rel => exact ⟨i + 1, xs.set (i + q) s[i], by omega, by rw [HT2.out]; go_num, by go_num, ⟨by rw [List.length_set, HXL.out.1], by rw [HT2.out, HE2.out, show i + 1 + q = (i + q) + 1 by omega, set_take HXL.out.2 (by rw [HXL.out.1]; omega)]⟩, by have h := HM2.out; rw [← map_ub]; exact h⟩
            case measure => simp [intOf]; omega
          · obtain ⟨g, o, c, x, y, c0, hc2, x1, y1, HXY⟩ := HR.out.yes _ hsp
            have c0 := cell_below HM.out.below c0
            have X1 := Tre.hid x1
            have Y1 := Tre.hid y1
            have HT2 : Hid (specN (s.data.toList.take (i + 1)) = q + 1) := by rw [hsp] at HT3; exact HT3
            have HE2 : Hid (escB (s.data.toList.take (i + 1)) = escB (s.data.toList.take i) ++ [92, newB s[i]]) := by rw [hsp] at HE3; exact HE3
            have hj : i + q + 1 < N := by rw [← HN.out]; have := HT2.out; omega
            obtain ⟨u, hu⟩ : ∃ u, xs[i + q]? = some u := ⟨_, List.getElem?_eq_getElem (by rw [HXL.out.1]; omega)⟩
            obtain ⟨v, hv⟩ : ∃ v, xs[i + q + 1]? = some v := ⟨_, List.getElem?_eq_getElem (by rw [HXL.out.1]; omega)⟩
            have KJ : Hid ((xs.map ub)[i + q]? = some (ub u)) := by show _ = _; rw [List.getElem?_map, hu]; rfl
            have KJ2 : Hid ((xs.map ub)[i + q + 1]? = some (ub v)) := by show _ = _; rw [List.getElem?_map, hv]; rfl
            have hjle : i + q ≤ N := by omega
            have hw2 : IntKind.i64.wrap ((i : Int) + (q : Int) + 2) = (i : Int) + (q : Int) + 2 := IntWalk.i64_in _ ⟨by omega, by omega⟩
            have hjne : ¬ N = i + q := by omega
            have hb9 : (s[i].toNat : Int) < 256 := by omega
            have hj1 : (0 : Int) ≤ (i : Int) + (q : Int) ∧ (i : Int) + (q : Int) ≤ (N : Int) := by omega
            have hj2 : ((i : Int) + (q : Int)).toNat = i + q := by omega
            clear hsp HT3 HE3 hu hv hle hle2 x1 y1
            go_wp2_with fail
            refine wp_region_keep (S := (fun w' => w'.cell? ⟨R, s[i].toNat, none⟩ = some (.slice (some ⟨g, o, none⟩) 2 c))) [10] (by kernel_rfl) ?_ (fun hH0 => ?_)
            · exact c0
            have HQ := Tre.hid HM.out.drew
            generalize hq : World.drew _ = wq0 at HQ hH0 ⊢
            clear hq HM c0
            refine lPure (i := 0) (some 102) (v := ?_) (by rfl) (by kernel_rfl) (by kernel_rfl) (by kernel_rfl) (by kernel_rfl) (fun _ _ _ h => h) (by rfl) ?_ (keep_of hH0) ?_
            rotate_left
            · intro w; simp only [List.getElem?_toArray, List.getElem?_cons_zero, Option.map_some, Option.some.injEq]; (first | (go_simp; done) | (go_simp; with_reducible rfl))
            try simp only [Act.put, List.setIfInBounds_toArray, List.set_cons_zero, List.set_cons_succ]
            refine lPure (i := 1) (some 103) (v := ?_) (by rfl) (by kernel_rfl) (by kernel_rfl) (by kernel_rfl) (by kernel_rfl) (fun _ _ _ h => h) (by rfl) ?_ (keep_of hH0) ?_
            rotate_left
            · intro w; simp only [List.getElem?_toArray, List.getElem?_cons_succ, List.getElem?_cons_zero, Option.map_some, Option.some.injEq]; (first | (go_simp; done) | (go_simp; with_reducible rfl))
            try simp only [Act.put, List.setIfInBounds_toArray, List.set_cons_zero, List.set_cons_succ]
            refine lPure (i := 2) (some 104) (v := ?_) (by rfl) (by kernel_rfl) (by kernel_rfl) (by kernel_rfl) (by kernel_rfl) (fun _ _ _ h => h) (by rfl) ?_ (keep_of hH0) ?_
            rotate_left
            · intro w; simp only [List.getElem?_toArray, List.getElem?_cons_succ, List.getElem?_cons_zero, Option.map_some, Option.some.injEq]; (first | (go_simp; done) | (go_simp; with_reducible rfl))
            try simp only [Act.put, List.setIfInBounds_toArray, List.set_cons_zero, List.set_cons_succ]
            refine lPure (i := 3) (some 105) (v := ?_) (by rfl) (by kernel_rfl) (by kernel_rfl) (by kernel_rfl) (by kernel_rfl) (fun _ _ _ h => h) (by rfl) ?_ (keep_of hH0) ?_
            rotate_left
            · intro w; simp only [List.getElem?_toArray, List.getElem?_cons_succ, List.getElem?_cons_zero, Option.map_some, Option.some.injEq]; (first | (go_simp; done) | (go_simp; with_reducible rfl))
            try simp only [Act.put, List.setIfInBounds_toArray, List.set_cons_zero, List.set_cons_succ]
            refine lPure (i := 4) (some 106) (v := ?_) (by rfl) (by kernel_rfl) (by kernel_rfl) (by kernel_rfl) (by kernel_rfl) (fun _ _ _ h => h) (by rfl) ?_ (keep_of hH0) ?_
            rotate_left
            · intro w; simp only [List.getElem?_toArray, List.getElem?_cons_succ, List.getElem?_cons_zero, Option.map_some, Option.some.injEq]; (first | (go_simp; done) | (go_simp; with_reducible rfl))
            try simp only [Act.put, List.setIfInBounds_toArray, List.set_cons_zero, List.set_cons_succ]
            refine lPure (i := 5) (some 107) (v := ?_) (by rfl) (by kernel_rfl) (by kernel_rfl) (by kernel_rfl) (by kernel_rfl) (fun _ _ _ h => h) (by rfl) ?_ (keep_of hH0) ?_
            rotate_left
            · intro w; simp only [List.getElem?_toArray, List.getElem?_cons_succ, List.getElem?_cons_zero, Option.map_some, Option.some.injEq]; (first | (go_simp; done) | (go_simp; with_reducible rfl))
            try simp only [Act.put, List.setIfInBounds_toArray, List.set_cons_zero, List.set_cons_succ]
            refine lPure (i := 6) (some 108) (v := ?_) (by rfl) (by kernel_rfl) (by kernel_rfl) (by kernel_rfl) (by kernel_rfl) (fun _ _ _ h => h) (by rfl) ?_ (keep_of hH0) ?_
            rotate_left
            · intro w; simp only [List.getElem?_toArray, List.getElem?_cons_succ, List.getElem?_cons_zero, Option.map_some, Option.some.injEq]; (first | (go_simp; done) | (go_simp; with_reducible rfl))
            try simp only [Act.put, List.setIfInBounds_toArray, List.set_cons_zero, List.set_cons_succ]
            refine lPure (i := 7) (some 109) (v := ?_) (by rfl) (by kernel_rfl) (by kernel_rfl) (by kernel_rfl) (by kernel_rfl) (fun _ _ _ h => h) (by rfl) ?_ (keep_of hH0) ?_
            rotate_left
            · intro w; simp only [List.getElem?_toArray, List.getElem?_cons_succ, List.getElem?_cons_zero, Option.map_some, Option.some.injEq]; (first | (go_simp; done) | (go_simp; with_reducible rfl))
            try simp only [Act.put, List.setIfInBounds_toArray, List.set_cons_zero, List.set_cons_succ]
            refine lPure (i := 8) (some 110) (v := ?_) (by rfl) (by kernel_rfl) (by kernel_rfl) (by kernel_rfl) (by kernel_rfl) (fun _ _ _ h => h) (by rfl) ?_ (keep_of hH0) ?_
            rotate_left
            · intro w; simp only [List.getElem?_toArray, List.getElem?_cons_succ, List.getElem?_cons_zero, Option.map_some, Option.some.injEq]; (first | (go_simp; done) | (go_simp; with_reducible rfl))
            try simp only [Act.put, List.setIfInBounds_toArray, List.set_cons_zero, List.set_cons_succ]
            refine lTake (i := 9) (some 111) (v := ?_) (by rfl) (by kernel_rfl) (by kernel_rfl) (by kernel_rfl) (by kernel_rfl) (by kernel_rfl) (fun _ _ _ h => h) (by rfl) ?_ hH0 ?_
            rotate_left
            · intro w hSw; (try dsimp only at hSw); simp only [List.getElem?_toArray, List.getElem?_cons_succ, List.getElem?_cons_zero, Option.map_some, Option.some.injEq]; (first | (go_simp; done) | (go_simp; with_reducible rfl))
            try simp only [Act.put, List.setIfInBounds_toArray, List.set_cons_zero, List.set_cons_succ]
            refine lOne 10 (by kernel_rfl) (LFall.op (by kernel_rfl) (fun K hK => ?_))
            have hcp : ∀ ty : TypeId, (Builtin.copy_ #[100, 100] ty #[.slice (some ⟨gB, i + q, none⟩) (N - (i + q)) (N - (i + q)), .slice (some ⟨g, o, none⟩) 2 c]).run Tryz.prog wq0 = .ok (.int .i64 2) ((wq0.setCell ⟨gB, i + q, none⟩ (.int .u8 (x.toNat : Int))).setCell ⟨gB, i + q + 1, none⟩ (.int .u8 (y.toNat : Int))) := fun ty => copy_two wq0 ty gB (i + q) (N - (i + q)) g o c x y (by omega) (cell_below HQ.out.below X1.out) (cell_below HQ.out.below Y1.out) (HQ.out.cellAt 0 rfl _ KJ.out) (HQ.out.cellAt 0 rfl _ KJ2.out) (HQ.out.freeAt 0 rfl _) (HQ.out.freeAt 0 rfl _)
            have MC := (HQ.out.setRow 0 rfl (i + q) (.int .u8 (x.toNat : Int))).setRow 0 rfl (i + q + 1) (.int .u8 (y.toNat : Int))
            go_simp
            generalize hw : World.setCell _ ⟨gB, i + q + 1, none⟩ _ = wq1 at MC ⊢
            have HC2 := Tre.hid MC
            clear MC hw hcp
            refine hK.out _ _ ?_
            clear hK K hH0
            try simp only [Act.put, List.setIfInBounds_toArray, List.set_cons_zero, List.set_cons_succ]
            refine lPure (i := 11) (some 113) (v := ?_) (by rfl) (by kernel_rfl) (by kernel_rfl) (by kernel_rfl) (by kernel_rfl) (fun _ _ _ h => h) (by rfl) ?_ (keep_fell (by kernel_rfl)) ?_
            rotate_left
            · intro w; simp only [List.getElem?_toArray, List.getElem?_cons_succ, List.getElem?_cons_zero, Option.map_some, Option.some.injEq]; (first | (go_simp; done) | (go_simp; with_reducible rfl))
            try simp only [Act.put, List.setIfInBounds_toArray, List.set_cons_zero, List.set_cons_succ]
            refine lPure (i := 12) (some 13) (v := ?_) (by rfl) (by kernel_rfl) (by kernel_rfl) (by kernel_rfl) (by kernel_rfl) (fun _ _ _ h => h) (by rfl) ?_ (keep_fell (by kernel_rfl)) ?_
            rotate_left
            · intro w; simp only [List.getElem?_toArray, List.getElem?_cons_succ, List.getElem?_cons_zero, Option.map_some, Option.some.injEq]; (first | (go_simp; done) | (go_simp; with_reducible rfl))
            try simp only [Act.put, List.setIfInBounds_toArray, List.set_cons_zero, List.set_cons_succ]
            refine lDone (by kernel_rfl) ?_
            go_wp2_with fail
            go_roundw
            case rel => exact ⟨i + 1, (xs.set (i + q) x).set (i + q + 1) y, by omega, by rw [HT2.out]; go_num, by go_num, ⟨by rw [List.length_set, List.length_set, HXL.out.1], by rw [HT2.out, HE2.out, show i + 1 + (q + 1) = (i + q + 1) + 1 by omega, set_take (set_take HXL.out.2 (by rw [HXL.out.1]; omega)) (by rw [List.length_set, HXL.out.1]; omega), HXY.out.1, HXY.out.2, List.append_assoc]; rfl⟩, by have h := HC2.out; rw [← map_ub, ← map_ub]; exact h⟩
            case measure => simp [intOf]; omega
        · have e : i = s.size := by omega
          have hcv : ∀ W : World, Mem w W [rowR 5 1 (.slice (some ⟨gB, 0, none⟩) N N) N (xs.map ub)] → (convert 100 9 (.slice (some ⟨gB, 0, none⟩) N N)).run Tryz.prog W = .ok (.string ⟨xs.toArray⟩) W := fun W h => by
            have h1 := run_convert_bytes_back (P := Tryz.prog) W 100 9 5 ⟨gB, 0, none⟩ N xs Tryz.underlying100 Tryz.underlying5 Tryz.underlying9 (fun j hj => by
              have h2 := h.cellAt 0 rfl j (u := ub xs[j]) (by rw [List.getElem?_map, List.getElem?_eq_getElem hj]; rfl)
              have h3 : (⟨gB, 0, none⟩ : Addr).add j = ⟨gB, j, none⟩ := by unfold Addr.add; by_cases hj0 : j = 0 <;> simp [hj0]
              rw [h3]; exact h2)
            rw [HXL.out.1] at h1
            exact h1
          have hcv2 := hcv wr HM.out
          have hxs : (⟨xs.toArray⟩ : ByteArray).size = N := by show xs.toArray.size = N; rw [List.size_toArray]; exact HXL.out.1
          have HZ : Hid ((⟨xs.toArray⟩ : ByteArray).data.toList = escB s.data.toList) := by
            show xs = _
            have h2 := HXL.out.2
            have hsl : s.data.toList.length = s.size := rfl
            have ht : s.data.toList.take s.size = s.data.toList := List.take_of_length_le (Nat.le_of_eq hsl)
            rw [e, ht, HTT.out, HN.out, List.take_of_length_le (Nat.le_of_eq HXL.out.1)] at h2
            exact h2
          generalize (⟨xs.toArray⟩ : ByteArray) = z at *
          clear hcv
          go_wp2_with fail
          go_ret
          exact ⟨z, rfl, HZ, HM.out.below⟩
  · go_enter Tryz.func184, Tryz.ntmps184
    have hl24 : 24 ≤ s.size := by omega
    clear hlen
    go_wp2_with fail
    have hd : decide ((24 : Int) ≤ (s.size : Int)) = true := by simp; omega
    rw [hd]
    clear hd
    have HTOP : Hid (∀ k, k < 3 → w.cell? ⟨gT, k, none⟩ = some (.string ⟨#[topK k]⟩)) := fun k hk => by
      match k, hk with
      | 0, _ => exact t1
      | 1, _ => exact t2
      | 2, _ => exact t3
    clear t0 t1 t2 t3
    go_loopw [5, 6, 32] (fun v5 v6 v32 wr => ∃ k : Nat, k ≤ 3 ∧ v32 = .int .i64 k ∧ v5 = .int .i64 ((s.size + cntK s.data.toList k : Nat) : Int) ∧ v6 = .bool (decide (0 < cntK s.data.toList k)) ∧ Hid (Below w.heap.size w wr))
      (fun _ _ v32 _ => 3 - (intOf v32).toNat)
    case atStart => exact ⟨0, by omega, rfl, rfl, rfl, Below.refl _ _⟩
    case round =>
    obtain ⟨k, hk, rfl, rfl, rfl, HB⟩ := hrel
    have hcl := cntK_le s.data.toList k
    have hcl2 := cntK_le s.data.toList (k + 1)
    have hTn := specN_le s.data.toList
    rw [Array.length_toList] at hTn
    have hTn2 : s.data.size = s.size := rfl
    rw [hTn2] at hTn
    clear hTn2
    obtain ⟨T, hTT⟩ : ∃ T, specN s.data.toList = T := ⟨_, rfl⟩
    rw [hTT] at hTn hcl hcl2
    have HTT := Tre.hid hTT
    clear hTT
    by_cases hlt : k < 3
    · have HN3 := Tre.hid (cntK_succ s.data.toList k hlt)
      rw [HN3.out] at hcl2
      have ht := cell_below HB.out (HTOP.out k hlt)
      obtain ⟨g, o, c, x, y, c0, hc2, c1, c2, _⟩ := (HR.out.below HB.out).yes _ (topK_spec k)
      have hcnt := Tryz.strings_Count_one s (topK k) wr
      have hbb : (topK k).toNat < 256 := (topK k).toNat_lt
      unfold Lib.countByte at hcnt
      generalize topK k = bb at *
      generalize cntK s.data.toList k = q at *
      generalize s.data.toList.count bb = m at *
      have HCT := Tre.hid hcnt
      have i3 : (k : Int) < 3 := by omega
      clear hcnt c1 c2
      go_wp2_with fail
      refine HCT.out.mono ?_
      rintro e w1 ⟨rfl, rfl⟩
      by_cases hc0 : m = 0
      · subst hc0
        clear HCT
        go_wp2_with fail
        go_roundw
        case rel => exact ⟨k + 1, by omega, by go_num, by rw [HN3.out]; go_num, by rw [HN3.out]; simp, HB⟩
        case measure => simp [intOf]; omega
      · have hm0 : ¬ (m : Int) = 0 := by omega
        have hwA : IntKind.i64.wrap (m : Int) = (m : Int) := IntWalk.i64_in _ ⟨by omega, by omega⟩
        have hwB : IntKind.i64.wrap ((s.size : Int) + (q : Int) + (m : Int)) = (s.size : Int) + (q : Int) + (m : Int) := IntWalk.i64_in _ ⟨by omega, by omega⟩
        have hbb9 : (bb.toNat : Int) < 256 := by omega
        have hw1 : IntKind.i64.wrap 1 = 1 := by decide
        have hbd : ∀ h : 0 < (⟨#[bb]⟩ : ByteArray).size, (⟨#[bb]⟩ : ByteArray)[0]'h = bb := fun _ => rfl
        clear HCT
        go_wp2_with fail
        refine wp_region_keep (S := (fun w' => w'.cell? ⟨R, bb.toNat, none⟩ = some (.slice (some ⟨g, o, none⟩) 2 c))) [] (by kernel_rfl) ?_ (fun hH0 => ?_)
        · exact c0
        have HQ : Hid (Below w.heap.size w w1.drew) := HB.out.drew
        generalize hq : World.drew _ = wq0 at HQ hH0 ⊢
        clear hq HB c0
        refine lPure (i := 0) (some 41) (v := ?_) (by rfl) (by kernel_rfl) (by kernel_rfl) (by kernel_rfl) (by kernel_rfl) (fun _ _ _ h => h) (by rfl) ?_ (keep_of hH0) ?_
        rotate_left
        · intro w; simp only [List.getElem?_toArray, List.getElem?_cons_zero, Option.map_some, Option.some.injEq]; (first | (go_simp; done) | (go_simp; with_reducible rfl))
        try simp only [Act.put, List.setIfInBounds_toArray, List.set_cons_zero, List.set_cons_succ]
        refine lPure (i := 1) (some 42) (v := ?_) (by rfl) (by kernel_rfl) (by kernel_rfl) (by kernel_rfl) (by kernel_rfl) (fun _ _ _ h => h) (by rfl) ?_ (keep_of hH0) ?_
        rotate_left
        · intro w; simp only [List.getElem?_toArray, List.getElem?_cons_succ, List.getElem?_cons_zero, Option.map_some, Option.some.injEq]; (first | (go_simp; done) | (go_simp; with_reducible rfl))
        try simp only [Act.put, List.setIfInBounds_toArray, List.set_cons_zero, List.set_cons_succ]
        refine lPure (i := 2) (some 43) (v := ?_) (by rfl) (by kernel_rfl) (by kernel_rfl) (by kernel_rfl) (by kernel_rfl) (fun _ _ _ h => h) (by rfl) ?_ (keep_of hH0) ?_
        rotate_left
        · intro w; simp only [List.getElem?_toArray, List.getElem?_cons_succ, List.getElem?_cons_zero, Option.map_some, Option.some.injEq]; (first | (go_simp; done) | (go_simp; with_reducible rfl))
        try simp only [Act.put, List.setIfInBounds_toArray, List.set_cons_zero, List.set_cons_succ]
        refine lPure (i := 3) (some 44) (v := ?_) (by rfl) (by kernel_rfl) (by kernel_rfl) (by kernel_rfl) (by kernel_rfl) (fun _ _ _ h => h) (by rfl) ?_ (keep_of hH0) ?_
        rotate_left
        · intro w; simp only [List.getElem?_toArray, List.getElem?_cons_succ, List.getElem?_cons_zero, Option.map_some, Option.some.injEq]; (first | (go_simp; done) | (go_simp; with_reducible rfl))
        try simp only [Act.put, List.setIfInBounds_toArray, List.set_cons_zero, List.set_cons_succ]
        refine lPure (i := 5) (some 46) (v := ?_) (by rfl) (by kernel_rfl) (by kernel_rfl) (by kernel_rfl) (by kernel_rfl) (fun _ _ _ h => h) (by rfl) ?_ (keep_of hH0) ?_
        rotate_left
        · intro w; simp only [List.getElem?_toArray, List.getElem?_cons_succ, List.getElem?_cons_zero, Option.map_some, Option.some.injEq]; (first | (go_simp; done) | (go_simp; with_reducible rfl))
        try simp only [Act.put, List.setIfInBounds_toArray, List.set_cons_zero, List.set_cons_succ]
        refine lPure (i := 6) (some 47) (v := ?_) (by rfl) (by kernel_rfl) (by kernel_rfl) (by kernel_rfl) (by kernel_rfl) (fun _ _ _ h => h) (by rfl) ?_ (keep_of hH0) ?_
        rotate_left
        · intro w; simp only [List.getElem?_toArray, List.getElem?_cons_succ, List.getElem?_cons_zero, Option.map_some, Option.some.injEq]; (first | (go_simp; done) | (go_simp; with_reducible rfl))
        try simp only [Act.put, List.setIfInBounds_toArray, List.set_cons_zero, List.set_cons_succ]
        refine lTake (i := 4) (some 45) (v := ?_) (by rfl) (by kernel_rfl) (by kernel_rfl) (by kernel_rfl) (by kernel_rfl) (by kernel_rfl) (fun _ _ _ h => h) (by rfl) ?_ hH0 ?_
        rotate_left
        · intro w hSw; (try dsimp only at hSw); simp only [List.getElem?_toArray, List.getElem?_cons_succ, List.getElem?_cons_zero, Option.map_some, Option.some.injEq]; (first | (go_simp; done) | (go_simp; with_reducible rfl))
        try simp only [Act.put, List.setIfInBounds_toArray, List.set_cons_zero, List.set_cons_succ]
        refine lPure (i := 7) (some 48) (v := ?_) (by rfl) (by kernel_rfl) (by kernel_rfl) (by kernel_rfl) (by kernel_rfl) (fun _ _ _ h => h) (by rfl) ?_ (keep_of hH0) ?_
        rotate_left
        · intro w; simp only [List.getElem?_toArray, List.getElem?_cons_succ, List.getElem?_cons_zero, Option.map_some, Option.some.injEq]; (first | (go_simp; done) | (go_simp; with_reducible rfl))
        try simp only [Act.put, List.setIfInBounds_toArray, List.set_cons_zero, List.set_cons_succ]
        refine lTake (i := 8) (some 49) (v := ?_) (by rfl) (by kernel_rfl) (by kernel_rfl) (by kernel_rfl) (by kernel_rfl) (by kernel_rfl) (fun _ _ _ h => h) (by rfl) ?_ hH0 ?_
        rotate_left
        · intro w hSw; (try dsimp only at hSw); simp only [List.getElem?_toArray, List.getElem?_cons_succ, List.getElem?_cons_zero, Option.map_some, Option.some.injEq]; (first | (go_simp; done) | (go_simp; with_reducible rfl))
        try simp only [Act.put, List.setIfInBounds_toArray, List.set_cons_zero, List.set_cons_succ]
        refine lPure (i := 9) (some 50) (v := ?_) (by rfl) (by kernel_rfl) (by kernel_rfl) (by kernel_rfl) (by kernel_rfl) (fun _ _ _ h => h) (by rfl) ?_ (keep_of hH0) ?_
        rotate_left
        · intro w; simp only [List.getElem?_toArray, List.getElem?_cons_succ, List.getElem?_cons_zero, Option.map_some, Option.some.injEq]; (first | (go_simp; done) | (go_simp; with_reducible rfl))
        try simp only [Act.put, List.setIfInBounds_toArray, List.set_cons_zero, List.set_cons_succ]
        refine lPure (i := 10) (some 51) (v := ?_) (by rfl) (by kernel_rfl) (by kernel_rfl) (by kernel_rfl) (by kernel_rfl) (fun _ _ _ h => h) (by rfl) ?_ (keep_of hH0) ?_
        rotate_left
        · intro w; simp only [List.getElem?_toArray, List.getElem?_cons_succ, List.getElem?_cons_zero, Option.map_some, Option.some.injEq]; (first | (go_simp; done) | (go_simp; with_reducible rfl))
        try simp only [Act.put, List.setIfInBounds_toArray, List.set_cons_zero, List.set_cons_succ]
        refine lPure (i := 11) (some 52) (v := ?_) (by rfl) (by kernel_rfl) (by kernel_rfl) (by kernel_rfl) (by kernel_rfl) (fun _ _ _ h => h) (by rfl) ?_ (keep_of hH0) ?_
        rotate_left
        · intro w; simp only [List.getElem?_toArray, List.getElem?_cons_succ, List.getElem?_cons_zero, Option.map_some, Option.some.injEq]; (first | (go_simp; done) | (go_simp; with_reducible rfl))
        try simp only [Act.put, List.setIfInBounds_toArray, List.set_cons_zero, List.set_cons_succ]
        refine lPure (i := 12) (some 53) (v := ?_) (by rfl) (by kernel_rfl) (by kernel_rfl) (by kernel_rfl) (by kernel_rfl) (fun _ _ _ h => h) (by rfl) ?_ (keep_of hH0) ?_
        rotate_left
        · intro w; simp only [List.getElem?_toArray, List.getElem?_cons_succ, List.getElem?_cons_zero, Option.map_some, Option.some.injEq]; (first | (go_simp; done) | (go_simp; with_reducible rfl))
        try simp only [Act.put, List.setIfInBounds_toArray, List.set_cons_zero, List.set_cons_succ]
        refine lPure (i := 13) (some 5) (v := ?_) (by rfl) (by kernel_rfl) (by kernel_rfl) (by kernel_rfl) (by kernel_rfl) (fun _ _ _ h => h) (by rfl) ?_ (keep_of hH0) ?_
        rotate_left
        · intro w; simp only [List.getElem?_toArray, List.getElem?_cons_succ, List.getElem?_cons_zero, Option.map_some, Option.some.injEq]; (first | (go_simp; done) | (go_simp; with_reducible rfl))
        try simp only [Act.put, List.setIfInBounds_toArray, List.set_cons_zero, List.set_cons_succ]
        refine lDone (by kernel_rfl) ?_
        clear hH0
        go_wp2_with fail
        go_roundw
        case rel => exact ⟨k + 1, by omega, by go_num, by rw [HN3.out]; go_num, by rw [HN3.out]; simp; try omega, HQ⟩
        case measure => simp [intOf]; omega
    · have e : k = 3 := by omega
      subst e
      have e3 : cntK s.data.toList 3 = specN s.data.toList := specN_counts _
      rw [e3, HTT.out]
      rw [show ((3 : Nat) : Int) = 3 from rfl]
      have HR2 : Hid True := trivial
      clear hcl hcl2 e3
      clear HR2
      have HTS : Hid (∀ k, specN (s.data.toList.take k) ≤ T) := fun k => by have h := specN_take_le s.data.toList k; rw [HTT.out] at h; exact h
      by_cases hT : T = 0
      · have hd : decide (0 < T) = false := by simp [hT]
        rw [hd]
        have hT0 := Tre.hid hT
        clear hd hT
        go_wp2_with fail
        go_ret
        exact ⟨s, rfl, by show _ = _; rw [escB_none (HTT.out.trans hT0.out)], HB.out⟩
      · have hd : decide (0 < T) = true := by simp; omega
        rw [hd]
        clear hd
        obtain ⟨wm, hmk, hmem⟩ := made_u8 wr (s.size + T) (by omega)
        have M0 := hmem _ _ (Mem.of_below HB.out)
        rw [Int.natCast_add] at hmk
        have HM0 := Tre.hid M0
        generalize hgB : wr.heap.size = gB at *
        clear M0 hmem
        go_wp2_with fail
        clear hmk hgB
        obtain ⟨N, hN⟩ : ∃ N, s.size + T = N := ⟨_, rfl⟩
        rw [hN] at HM0 ⊢
        have HN := Tre.hid hN
        have hNb : N ≤ 16777216 := by omega
        go_loopw [13, 14] (fun v13 v14 wr => ∃ (i : Nat) (xs : List UInt8), i ≤ s.size ∧ v13 = .int .i64 ((i + specN (s.data.toList.take i) : Nat) : Int) ∧ v14 = .int .i64 i ∧ Hid (xs.length = N ∧ xs.take (i + specN (s.data.toList.take i)) = escB (s.data.toList.take i)) ∧ Hid (Mem w wr [rowR 5 1 (.slice (some ⟨gB, 0, none⟩) N N) N (xs.map ub)]))
          (fun _ v14 _ => s.size - (intOf v14).toNat)
        case atStart => exact ⟨0, List.replicate N 0, Nat.zero_le _, rfl, rfl, ⟨by simp, by simp [escB, specN]⟩, HM0.out⟩
        case round =>
        clear HM0
        obtain ⟨i, xs, hi, rfl, rfl, HXL, HM⟩ := hrel
        by_cases hlt2 : i < s.size
        · have hil : i < s.data.toList.length := by rw [Array.length_toList]; exact hlt2
          have HT3 := specN_succ hil
          have hgi : s.data.toList[i] = s[i] := by rw [Array.getElem_toList]; rfl
          rw [hgi] at HT3
          have HE3 := escB_take hil
          rw [hgi] at HE3
          have hle := HTS.out i
          have hle2 := HTS.out (i + 1)
          generalize specN (s.data.toList.take i) = q at *
          have HR2 := Tre.hid (HR.out.below HM.out.below)
          have hb8 : s[i].toNat < 256 := s[i].toNat_lt
          have e1 := ne_some
          have e0 := ne_none
          clear hgi hN
          cases hsp : specB s[i]
          · have c0 := HR2.out.no _ hsp
            have HT2 : Hid (specN (s.data.toList.take (i + 1)) = q) := by rw [hsp] at HT3; exact HT3
            have HE2 : Hid (escB (s.data.toList.take (i + 1)) = escB (s.data.toList.take i) ++ [s[i]]) := by rw [hsp] at HE3; exact HE3
            have hj : i + q < N := by rw [← HN.out]; omega
            obtain ⟨u, hu⟩ : ∃ u, xs[i + q]? = some u := ⟨_, List.getElem?_eq_getElem (by rw [HXL.out.1]; exact hj)⟩
            have k0 : wr.cell? ⟨gB, i + q, none⟩ = some (ub u) := HM.out.cellAt 0 rfl _ (by rw [List.getElem?_map, hu]; rfl)
            have f0 := HM.out.freeAt 0 rfl (i + q)
            have HM2 := Tre.hid (HM.out.setRow 0 rfl (i + q) (.int .u8 (s[i].toNat : Int)))
            clear hsp HT3 HE3 hu hle hle2
            go_wp2_with fail
            go_roundw
            case rel => exact ⟨i + 1, xs.set (i + q) s[i], by omega, by rw [HT2.out]; go_num, by go_num, ⟨by rw [List.length_set, HXL.out.1], by rw [HT2.out, HE2.out, show i + 1 + q = (i + q) + 1 by omega, set_take HXL.out.2 (by rw [HXL.out.1]; omega)]⟩, by have h := HM2.out; rw [← map_ub]; exact h⟩
            case measure => simp [intOf]; omega
          · obtain ⟨g, o, c, x, y, c0, hc2, x1, y1, HXY⟩ := HR.out.yes _ hsp
            have c0 := cell_below HM.out.below c0
            have X1 := Tre.hid x1
            have Y1 := Tre.hid y1
            have HT2 : Hid (specN (s.data.toList.take (i + 1)) = q + 1) := by rw [hsp] at HT3; exact HT3
            have HE2 : Hid (escB (s.data.toList.take (i + 1)) = escB (s.data.toList.take i) ++ [92, newB s[i]]) := by rw [hsp] at HE3; exact HE3
            have hj : i + q + 1 < N := by rw [← HN.out]; have := HT2.out; omega
            obtain ⟨u, hu⟩ : ∃ u, xs[i + q]? = some u := ⟨_, List.getElem?_eq_getElem (by rw [HXL.out.1]; omega)⟩
            obtain ⟨v, hv⟩ : ∃ v, xs[i + q + 1]? = some v := ⟨_, List.getElem?_eq_getElem (by rw [HXL.out.1]; omega)⟩
            have KJ : Hid ((xs.map ub)[i + q]? = some (ub u)) := by show _ = _; rw [List.getElem?_map, hu]; rfl
            have KJ2 : Hid ((xs.map ub)[i + q + 1]? = some (ub v)) := by show _ = _; rw [List.getElem?_map, hv]; rfl
            have hjle : i + q ≤ N := by omega
            have hw2 : IntKind.i64.wrap ((i : Int) + (q : Int) + 2) = (i : Int) + (q : Int) + 2 := IntWalk.i64_in _ ⟨by omega, by omega⟩
            have hjne : ¬ N = i + q := by omega
            have hb9 : (s[i].toNat : Int) < 256 := by omega
            have hj1 : (0 : Int) ≤ (i : Int) + (q : Int) ∧ (i : Int) + (q : Int) ≤ (N : Int) := by omega
            have hj2 : ((i : Int) + (q : Int)).toNat = i + q := by omega
            clear hsp HT3 HE3 hu hv hle hle2 x1 y1
            go_wp2_with fail
            refine wp_region_keep (S := (fun w' => w'.cell? ⟨R, s[i].toNat, none⟩ = some (.slice (some ⟨g, o, none⟩) 2 c))) [10] (by kernel_rfl) ?_ (fun hH0 => ?_)
            · exact c0
            have HQ := Tre.hid HM.out.drew
            generalize hq : World.drew _ = wq0 at HQ hH0 ⊢
            clear hq HM c0
            refine lPure (i := 0) (some 102) (v := ?_) (by rfl) (by kernel_rfl) (by kernel_rfl) (by kernel_rfl) (by kernel_rfl) (fun _ _ _ h => h) (by rfl) ?_ (keep_of hH0) ?_
            rotate_left
            · intro w; simp only [List.getElem?_toArray, List.getElem?_cons_zero, Option.map_some, Option.some.injEq]; (first | (go_simp; done) | (go_simp; with_reducible rfl))
            try simp only [Act.put, List.setIfInBounds_toArray, List.set_cons_zero, List.set_cons_succ]
            refine lPure (i := 1) (some 103) (v := ?_) (by rfl) (by kernel_rfl) (by kernel_rfl) (by kernel_rfl) (by kernel_rfl) (fun _ _ _ h => h) (by rfl) ?_ (keep_of hH0) ?_
            rotate_left
            · intro w; simp only [List.getElem?_toArray, List.getElem?_cons_succ, List.getElem?_cons_zero, Option.map_some, Option.some.injEq]; (first | (go_simp; done) | (go_simp; with_reducible rfl))
            try simp only [Act.put, List.setIfInBounds_toArray, List.set_cons_zero, List.set_cons_succ]
            refine lPure (i := 2) (some 104) (v := ?_) (by rfl) (by kernel_rfl) (by kernel_rfl) (by kernel_rfl) (by kernel_rfl) (fun _ _ _ h => h) (by rfl) ?_ (keep_of hH0) ?_
            rotate_left
            · intro w; simp only [List.getElem?_toArray, List.getElem?_cons_succ, List.getElem?_cons_zero, Option.map_some, Option.some.injEq]; (first | (go_simp; done) | (go_simp; with_reducible rfl))
            try simp only [Act.put, List.setIfInBounds_toArray, List.set_cons_zero, List.set_cons_succ]
            refine lPure (i := 3) (some 105) (v := ?_) (by rfl) (by kernel_rfl) (by kernel_rfl) (by kernel_rfl) (by kernel_rfl) (fun _ _ _ h => h) (by rfl) ?_ (keep_of hH0) ?_
            rotate_left
            · intro w; simp only [List.getElem?_toArray, List.getElem?_cons_succ, List.getElem?_cons_zero, Option.map_some, Option.some.injEq]; (first | (go_simp; done) | (go_simp; with_reducible rfl))
            try simp only [Act.put, List.setIfInBounds_toArray, List.set_cons_zero, List.set_cons_succ]
            refine lPure (i := 4) (some 106) (v := ?_) (by rfl) (by kernel_rfl) (by kernel_rfl) (by kernel_rfl) (by kernel_rfl) (fun _ _ _ h => h) (by rfl) ?_ (keep_of hH0) ?_
            rotate_left
            · intro w; simp only [List.getElem?_toArray, List.getElem?_cons_succ, List.getElem?_cons_zero, Option.map_some, Option.some.injEq]; (first | (go_simp; done) | (go_simp; with_reducible rfl))
            try simp only [Act.put, List.setIfInBounds_toArray, List.set_cons_zero, List.set_cons_succ]
            refine lPure (i := 5) (some 107) (v := ?_) (by rfl) (by kernel_rfl) (by kernel_rfl) (by kernel_rfl) (by kernel_rfl) (fun _ _ _ h => h) (by rfl) ?_ (keep_of hH0) ?_
            rotate_left
            · intro w; simp only [List.getElem?_toArray, List.getElem?_cons_succ, List.getElem?_cons_zero, Option.map_some, Option.some.injEq]; (first | (go_simp; done) | (go_simp; with_reducible rfl))
            try simp only [Act.put, List.setIfInBounds_toArray, List.set_cons_zero, List.set_cons_succ]
            refine lPure (i := 6) (some 108) (v := ?_) (by rfl) (by kernel_rfl) (by kernel_rfl) (by kernel_rfl) (by kernel_rfl) (fun _ _ _ h => h) (by rfl) ?_ (keep_of hH0) ?_
            rotate_left
            · intro w; simp only [List.getElem?_toArray, List.getElem?_cons_succ, List.getElem?_cons_zero, Option.map_some, Option.some.injEq]; (first | (go_simp; done) | (go_simp; with_reducible rfl))
            try simp only [Act.put, List.setIfInBounds_toArray, List.set_cons_zero, List.set_cons_succ]
            refine lPure (i := 7) (some 109) (v := ?_) (by rfl) (by kernel_rfl) (by kernel_rfl) (by kernel_rfl) (by kernel_rfl) (fun _ _ _ h => h) (by rfl) ?_ (keep_of hH0) ?_
            rotate_left
            · intro w; simp only [List.getElem?_toArray, List.getElem?_cons_succ, List.getElem?_cons_zero, Option.map_some, Option.some.injEq]; (first | (go_simp; done) | (go_simp; with_reducible rfl))
            try simp only [Act.put, List.setIfInBounds_toArray, List.set_cons_zero, List.set_cons_succ]
            refine lPure (i := 8) (some 110) (v := ?_) (by rfl) (by kernel_rfl) (by kernel_rfl) (by kernel_rfl) (by kernel_rfl) (fun _ _ _ h => h) (by rfl) ?_ (keep_of hH0) ?_
            rotate_left
            · intro w; simp only [List.getElem?_toArray, List.getElem?_cons_succ, List.getElem?_cons_zero, Option.map_some, Option.some.injEq]; (first | (go_simp; done) | (go_simp; with_reducible rfl))
            try simp only [Act.put, List.setIfInBounds_toArray, List.set_cons_zero, List.set_cons_succ]
            refine lTake (i := 9) (some 111) (v := ?_) (by rfl) (by kernel_rfl) (by kernel_rfl) (by kernel_rfl) (by kernel_rfl) (by kernel_rfl) (fun _ _ _ h => h) (by rfl) ?_ hH0 ?_
            rotate_left
            · intro w hSw; (try dsimp only at hSw); simp only [List.getElem?_toArray, List.getElem?_cons_succ, List.getElem?_cons_zero, Option.map_some, Option.some.injEq]; (first | (go_simp; done) | (go_simp; with_reducible rfl))
            try simp only [Act.put, List.setIfInBounds_toArray, List.set_cons_zero, List.set_cons_succ]
            refine lOne 10 (by kernel_rfl) (LFall.op (by kernel_rfl) (fun K hK => ?_))
            have hcp : ∀ ty : TypeId, (Builtin.copy_ #[100, 100] ty #[.slice (some ⟨gB, i + q, none⟩) (N - (i + q)) (N - (i + q)), .slice (some ⟨g, o, none⟩) 2 c]).run Tryz.prog wq0 = .ok (.int .i64 2) ((wq0.setCell ⟨gB, i + q, none⟩ (.int .u8 (x.toNat : Int))).setCell ⟨gB, i + q + 1, none⟩ (.int .u8 (y.toNat : Int))) := fun ty => copy_two wq0 ty gB (i + q) (N - (i + q)) g o c x y (by omega) (cell_below HQ.out.below X1.out) (cell_below HQ.out.below Y1.out) (HQ.out.cellAt 0 rfl _ KJ.out) (HQ.out.cellAt 0 rfl _ KJ2.out) (HQ.out.freeAt 0 rfl _) (HQ.out.freeAt 0 rfl _)
            have MC := (HQ.out.setRow 0 rfl (i + q) (.int .u8 (x.toNat : Int))).setRow 0 rfl (i + q + 1) (.int .u8 (y.toNat : Int))
            go_simp
            generalize hw : World.setCell _ ⟨gB, i + q + 1, none⟩ _ = wq1 at MC ⊢
            have HC2 := Tre.hid MC
            clear MC hw hcp
            refine hK.out _ _ ?_
            clear hK K hH0
            try simp only [Act.put, List.setIfInBounds_toArray, List.set_cons_zero, List.set_cons_succ]
            refine lPure (i := 11) (some 113) (v := ?_) (by rfl) (by kernel_rfl) (by kernel_rfl) (by kernel_rfl) (by kernel_rfl) (fun _ _ _ h => h) (by rfl) ?_ (keep_fell (by kernel_rfl)) ?_
            rotate_left
            · intro w; simp only [List.getElem?_toArray, List.getElem?_cons_succ, List.getElem?_cons_zero, Option.map_some, Option.some.injEq]; (first | (go_simp; done) | (go_simp; with_reducible rfl))
            try simp only [Act.put, List.setIfInBounds_toArray, List.set_cons_zero, List.set_cons_succ]
            refine lPure (i := 12) (some 13) (v := ?_) (by rfl) (by kernel_rfl) (by kernel_rfl) (by kernel_rfl) (by kernel_rfl) (fun _ _ _ h => h) (by rfl) ?_ (keep_fell (by kernel_rfl)) ?_
            rotate_left
            · intro w; simp only [List.getElem?_toArray, List.getElem?_cons_succ, List.getElem?_cons_zero, Option.map_some, Option.some.injEq]; (first | (go_simp; done) | (go_simp; with_reducible rfl))
            try simp only [Act.put, List.setIfInBounds_toArray, List.set_cons_zero, List.set_cons_succ]
            refine lDone (by kernel_rfl) ?_
            go_wp2_with fail
            go_roundw
            case rel => exact ⟨i + 1, (xs.set (i + q) x).set (i + q + 1) y, by omega, by rw [HT2.out]; go_num, by go_num, ⟨by rw [List.length_set, List.length_set, HXL.out.1], by rw [HT2.out, HE2.out, show i + 1 + (q + 1) = (i + q + 1) + 1 by omega, set_take (set_take HXL.out.2 (by rw [HXL.out.1]; omega)) (by rw [List.length_set, HXL.out.1]; omega), HXY.out.1, HXY.out.2, List.append_assoc]; rfl⟩, by have h := HC2.out; rw [← map_ub, ← map_ub]; exact h⟩
            case measure => simp [intOf]; omega
        · have e : i = s.size := by omega
          have hcv : ∀ W : World, Mem w W [rowR 5 1 (.slice (some ⟨gB, 0, none⟩) N N) N (xs.map ub)] → (convert 100 9 (.slice (some ⟨gB, 0, none⟩) N N)).run Tryz.prog W = .ok (.string ⟨xs.toArray⟩) W := fun W h => by
            have h1 := run_convert_bytes_back (P := Tryz.prog) W 100 9 5 ⟨gB, 0, none⟩ N xs Tryz.underlying100 Tryz.underlying5 Tryz.underlying9 (fun j hj => by
              have h2 := h.cellAt 0 rfl j (u := ub xs[j]) (by rw [List.getElem?_map, List.getElem?_eq_getElem hj]; rfl)
              have h3 : (⟨gB, 0, none⟩ : Addr).add j = ⟨gB, j, none⟩ := by unfold Addr.add; by_cases hj0 : j = 0 <;> simp [hj0]
              rw [h3]; exact h2)
            rw [HXL.out.1] at h1
            exact h1
          have hcv2 := hcv wr HM.out
          have hxs : (⟨xs.toArray⟩ : ByteArray).size = N := by show xs.toArray.size = N; rw [List.size_toArray]; exact HXL.out.1
          have HZ : Hid ((⟨xs.toArray⟩ : ByteArray).data.toList = escB s.data.toList) := by
            show xs = _
            have h2 := HXL.out.2
            have hsl : s.data.toList.length = s.size := rfl
            have ht : s.data.toList.take s.size = s.data.toList := List.take_of_length_le (Nat.le_of_eq hsl)
            rw [e, ht, HTT.out, HN.out, List.take_of_length_le (Nat.le_of_eq HXL.out.1)] at h2
            exact h2
          generalize (⟨xs.toArray⟩ : ByteArray) = z at *
          clear hcv
          go_wp2_with fail
          go_ret
          exact ⟨z, rfl, HZ, HM.out.below⟩
end Go.Proofs.YtcpcheengfgpaaaGreatDoor.rep
