/- graph.arity, graph.rising, slices.IndexFunc and ContainsFunc over numbers, graph.may. -/
import Derived.Test.YtlkfhbmjemjohaaKeyw
import Derived.Test.YtlkfhbmjemjohaaMapl
namespace Go.Tre
/-- how many arguments constructors have -/
def arity : ByteArray → Option Int := upd (upd (upd (upd (upd (upd (fun _ => none) ⟨#[105, 110, 116]⟩ 0) ⟨#[98, 111, 111, 108]⟩ 0) ⟨#[115, 116, 114, 105, 110, 103]⟩ 0) ⟨#[117, 110, 105, 116]⟩ 0) ⟨#[45, 62]⟩ 2) ⟨#[42]⟩ 2
def labelOk (l : List ByteArray) (i : Nat) : Bool := isName (l.getD i ByteArray.empty) && (i == 0 || Op.bytesLess (l.getD (i - 1) ByteArray.empty).toList (l.getD i ByteArray.empty).toList)
def rising (l : List ByteArray) : Bool := (List.range l.length).all (labelOk l)
def idxFunc {α : Type} (p : α → Bool) (xs : List α) : Int := if xs.findIdx p < xs.length then (xs.findIdx p : Int) else -1
theorem idxFunc_hit {α : Type} {p : α → Bool} {xs : List α} {k : Nat} (h : k < xs.length) (hp : p xs[k] = true) (hn : ∀ j (hj : j < xs.length), j < k → p xs[j] = false) : idxFunc p xs = k := by
  have : xs.findIdx p = k := (List.findIdx_eq h).2 ⟨hp, fun j hj => hn j (by omega) hj⟩
  unfold idxFunc; rw [this, if_pos h]
theorem idxFunc_miss {α : Type} {p : α → Bool} {xs : List α} (hn : ∀ j (hj : j < xs.length), p xs[j] = false) : idxFunc p xs = -1 := by
  have : xs.findIdx p = xs.length := List.findIdx_eq_length.2 (fun x hx => by
    obtain ⟨j, hj, rfl⟩ := List.getElem_of_mem hx
    exact hn j hj)
  unfold idxFunc; rw [this, if_neg (by omega)]
theorem idxFunc_any {α : Type} (p : α → Bool) (xs : List α) : decide (0 ≤ idxFunc p xs) = xs.any p := by
  unfold idxFunc
  by_cases h : xs.findIdx p < xs.length
  · rw [if_pos h]
    have := (List.any_eq_true (l := xs) (p := p)).2 (List.findIdx_lt_length.1 h)
    rw [this]; simp
  · rw [if_neg h]
    have : xs.any p = false := by
      rw [← Bool.not_eq_true, List.any_eq_true]
      exact fun e => h (List.findIdx_lt_length.2 e)
    rw [this]; rfl
def outside (size : Nat) (a : Int) : Bool := decide (a < 0) || decide ((size : Int) ≤ a)
/-- may a node be, among so many? -/
def mayB (n : Node) (size : Nat) : Bool :=
  !(n.args.any (outside size)) &&
  (if n.kind = 1 then decide (n.labels.length = 0) && !n.isOpen && decide (n.name.size = 0) && decide (n.args.length = 0)
   else if n.kind = 2 then decide (n.labels.length = 0) && !n.isOpen && (match arity n.name with | some k => decide ((n.args.length : Int) = k) | none => false)
   else if n.kind = 3 then decide (n.name.size = 0) && decide (n.labels.length = n.args.length) && rising n.labels
   else false)
end Go.Tre
namespace Go.Proofs.Ytlkfhbmjemjohaa.gr
open Go.RowKit Go.Maps Go.Tre lex

theorem K : Keyed Try.prog 9 := string_keyed Try.underlying9
theorem inj (a b : ByteArray) (h : Value.string a = Value.string b) : a = b := by injection h
theorem ky (s : ByteArray) (h : s.size ≤ maxLen) : keyOf Try.prog 9 (.string s) = some (.string s.data.toList) := by
  simp [keyOf, Try.underlying9, mapKey, h]
abbrev ei (n : Int) : Value := .int .i64 n

set_option maxHeartbeats 1000000 in
theorem arity_any (w : World) :
    Calls Try.prog 19 #[] w fun e w' => e = .returned (.map (some w.heap.size)) ∧ MapIs Try.prog 9 Value.string ei w' w.heap.size 6 arity ∧ Below w.heap.size w w' := by
  have hmm := @run_makeMap Try.prog
  have h0 := MapIs.made w Try.prog 9 Value.string ei
  have b0 := (Below.refl w.heap.size w).alloc (Nat.le_refl _) (.map #[] 0)
  go_enter Try.func19, Try.ntmps19
  go_wp2_with (first | (refine wpList_store rfl _ _ _ 44 (.inr rfl) 3 K inj Try.underlying44 rfl (by assumption) ⟨#[105, 110, 116]⟩ rfl (ky ⟨#[105, 110, 116]⟩ (by decide)) 0 rfl ?_; intro w1 h1 g1; have bb := below_row (by assumption) g1 (Nat.le_refl _)) | (refine wpList_store rfl _ _ _ 44 (.inr rfl) 3 K inj Try.underlying44 rfl (by assumption) ⟨#[98, 111, 111, 108]⟩ rfl (ky ⟨#[98, 111, 111, 108]⟩ (by decide)) 0 rfl ?_; intro w1 h1 g1; have bb := below_row (by assumption) g1 (Nat.le_refl _)) | (refine wpList_store rfl _ _ _ 44 (.inr rfl) 3 K inj Try.underlying44 rfl (by assumption) ⟨#[115, 116, 114, 105, 110, 103]⟩ rfl (ky ⟨#[115, 116, 114, 105, 110, 103]⟩ (by decide)) 0 rfl ?_; intro w1 h1 g1; have bb := below_row (by assumption) g1 (Nat.le_refl _)) | (refine wpList_store rfl _ _ _ 44 (.inr rfl) 3 K inj Try.underlying44 rfl (by assumption) ⟨#[117, 110, 105, 116]⟩ rfl (ky ⟨#[117, 110, 105, 116]⟩ (by decide)) 0 rfl ?_; intro w1 h1 g1; have bb := below_row (by assumption) g1 (Nat.le_refl _)) | (refine wpList_store rfl _ _ _ 44 (.inr rfl) 3 K inj Try.underlying44 rfl (by assumption) ⟨#[45, 62]⟩ rfl (ky ⟨#[45, 62]⟩ (by decide)) 2 rfl ?_; intro w1 h1 g1; have bb := below_row (by assumption) g1 (Nat.le_refl _)) | (refine wpList_store rfl _ _ _ 44 (.inr rfl) 3 K inj Try.underlying44 rfl (by assumption) ⟨#[42]⟩ rfl (ky ⟨#[42]⟩ (by decide)) 2 rfl ?_; intro w1 h1 g1; have bb := below_row (by assumption) g1 (Nat.le_refl _)))
  go_ret
  exact ⟨rfl, by assumption, by assumption⟩

theorem labels_small {s : ByteArray} {l : List ByteArray} (h : s ∈ l) (hb : (l.map fun s => s.size + 1).sum ≤ 8388608) : s.size ≤ 8388608 := by
  have : ∀ l : List ByteArray, s ∈ l → s.size + 1 ≤ (l.map fun s => s.size + 1).sum := fun l => by
    induction l with
    | nil => intro h; cases h
    | cons x r ih =>
      intro h
      simp only [List.map_cons, List.sum_cons]
      rcases List.mem_cons.1 h with rfl | h
      · omega
      · have := ih h; omega
  have := this l h
  omega

set_option maxHeartbeats 2000000 in
theorem rising_any (a : Option Addr) (cap : Nat) (l : List ByteArray) (w : World) (hl : StrsAt w a l) (hb : (l.map fun s => s.size + 1).sum ≤ 8388608) (hm : MaxAt w) :
    Calls Try.prog 37 #[.slice a l.length cap] w fun e w' => e = .returned (.bool (rising l)) ∧ w = w' := by
  have hlen : l.length ≤ 8388608 := Nat.le_trans (length_le_sum _ (fun x => by omega) l) hb
  go_enter Try.func37, Try.ntmps37
  go_wp2_with fail
  go_loop [7] (fun i => ∃ k : Nat, k ≤ l.length ∧ i = .int .i64 k ∧ ∀ j, j < k → labelOk l j = true) (fun i => l.length - (intOf i).toNat)
  case atStart => exact ⟨0, Nat.zero_le _, rfl, fun j h => by omega⟩
  case round =>
    obtain ⟨k, hk, rfl, hrel⟩ := hrel
    have HR := Tre.hid hrel
    clear hrel
    by_cases hlt : k < l.length
    · obtain ⟨b, off, rfl, hc⟩ := hl.at_ k (.string l[k]) (by simp [List.getElem?_eq_getElem hlt])
      have hsz := labels_small (List.getElem_mem hlt) hb
      have hok : labelOk l k = (isName l[k] && (k == 0 || Op.bytesLess (l.getD (k - 1) ByteArray.empty).toList l[k].toList)) := by
        unfold labelOk; rw [List.getD_eq_getElem?_getD, List.getElem?_eq_getElem hlt, Option.getD_some]
      have no : labelOk l k = false → rising l = false := fun h => by
        unfold rising
        rw [← Bool.not_eq_true, List.all_eq_true]
        exact fun hh => by have := hh k (List.mem_range.2 hlt); rw [h] at this; cases this
      by_cases hn : isName l[k] = true
      · by_cases hk0 : k = 0
        · have HO : Hid (labelOk l k = true) := by show _ = _; rw [hok, hn]; simp [hk0]
          have e0 : ¬ (0 : Int) < (k : Int) := by omega
          clear hok no hk0
          go_wp2_with (go_at_call 46; refine (isName_any _ _ hsz hm).mono ?_; rintro e w' ⟨rfl, rfl⟩)
          go_round
          case rel =>
            refine ⟨k + 1, by omega, by go_num, fun j hj => ?_⟩
            by_cases hjk : j = k
            · rw [hjk]; exact HO.out
            · exact HR.out j (by omega)
          case measure => simp [intOf]; omega
        · have hp : k - 1 < l.length := by omega
          obtain ⟨b', off', hbb, hc'⟩ := hl.at_ (k - 1) (.string l[k - 1]) (by simp [List.getElem?_eq_getElem hp])
          cases hbb
          have e0 : (0 : Int) < (k : Int) := by omega
          have e1 : (0 : Int) ≤ (k : Int) - 1 := by omega
          have hgd : l.getD (k - 1) ByteArray.empty = l[k - 1] := by rw [List.getD_eq_getElem?_getD, List.getElem?_eq_getElem hp, Option.getD_some]
          have hb0 : (k == 0) = false := by simpa using hk0
          by_cases hlo : Op.bytesLess l[k - 1].toList l[k].toList = true
          · have HO : Hid (labelOk l k = true) := by show _ = _; rw [hok, hn, hb0, hgd, hlo]; rfl
            clear hok no hgd hb0
            go_wp2_with (go_at_call 46; refine (isName_any _ _ hsz hm).mono ?_; rintro e w' ⟨rfl, rfl⟩)
            go_round
            case rel =>
              refine ⟨k + 1, by omega, by go_num, fun j hj => ?_⟩
              by_cases hjk : j = k
              · rw [hjk]; exact HO.out
              · exact HR.out j (by omega)
            case measure => simp [intOf]; omega
          · have HO : Hid (rising l = false) := no (by rw [hok, hn, hb0, hgd]; simpa using hlo)
            have hlo' : Op.bytesLess l[k - 1].toList l[k].toList = false := by simpa using hlo
            clear hok no hgd hb0 hlo
            go_wp2_with (go_at_call 46; refine (isName_any _ _ hsz hm).mono ?_; rintro e w' ⟨rfl, rfl⟩)
            go_ret
            exact ⟨ret_bool HO.out.symm, rfl⟩
      · have hn' : isName l[k] = false := by simpa using hn
        have HO : Hid (rising l = false) := no (by rw [hok, hn']; rfl)
        clear hok no hn
        go_wp2_with (go_at_call 46; refine (isName_any _ _ hsz hm).mono ?_; rintro e w' ⟨rfl, rfl⟩)
        go_ret
        exact ⟨ret_bool HO.out.symm, rfl⟩
    · have HO : Hid (rising l = true) := by
        show _ = _
        unfold rising
        rw [List.all_eq_true]
        exact fun j hj => HR.out j (by have := List.mem_range.1 hj; omega)
      go_wp2_with fail
      go_ret
      exact ⟨ret_bool HO.out.symm, rfl⟩
end Go.Proofs.Ytlkfhbmjemjohaa.gr
