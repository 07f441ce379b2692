/- slices.IndexFunc and ContainsFunc over numbers, at whatever function value that answers by a plain test. -/
import Derived.Test.YtlkfhbmjemjohaaMay
namespace Go.Proofs.Ytlkfhbmjemjohaa.gr
open Go.RowKit Go.Maps Go.Tre lex

set_option maxHeartbeats 2000000 in
theorem indexInts (F : Nat) (caps : Array Value) (hcf : ∀ (args : Array Value) (w : World), (callFunc F args).run Try.prog w = .ok (.enter F args) w) (p : Int → Bool)
    (a : Option Addr) (cap : Nat) (xs : List Int) (w : World) (hx : IntsAt w a xs) (hlen : xs.length ≤ 8388608)
    (hF : ∀ x wx, x ∈ xs → Below w.heap.size w wx → Calls Try.prog F (#[.int .i64 x] ++ caps) wx fun e w' => e = .returned (.bool (p x)) ∧ Below wx.heap.size wx w') :
    Calls Try.prog 42 #[.slice a xs.length cap, .func (.func F) #[] caps] w fun e w' => e = .returned (.int .i64 (idxFunc p xs)) ∧ Below w.heap.size w w' := by
  have HF := Tre.hid hF
  clear hF
  go_enter Try.func42, Try.ntmps42
  go_wp2_with fail
  go_loopw [8] (fun i wr => ∃ k : Nat, k ≤ xs.length ∧ i = .int .i64 k ∧ (∀ j (hj : j < xs.length), j < k → p xs[j] = false) ∧ Below w.heap.size w wr) (fun i _ => xs.length - (intOf i).toNat)
  case atStart => exact ⟨0, Nat.zero_le _, rfl, fun j _ h => by omega, Below.refl _ _⟩
  case round =>
    obtain ⟨k, hk, rfl, hrel, hb⟩ := hrel
    have HR := Tre.hid hrel
    clear hrel
    by_cases hlt : k < xs.length
    · obtain ⟨b, off, rfl, hc⟩ := (hx.below hb).at_ k (.int .i64 xs[k]) (by simp [List.getElem?_eq_getElem hlt])
      have hmem := List.getElem_mem hlt
      by_cases hp : p xs[k] = true
      · have HO := Tre.hid (idxFunc_hit hlt hp HR.out)
        go_wp2_with fail
        refine (HF.out xs[k] _ hmem hb).mono ?_
        rintro e w' ⟨rfl, hb'⟩
        go_wp2_with fail
        go_ret
        exact ⟨ret_int HO.out.symm, hb.trans (hb'.mono hb.size)⟩
      · have hp' : p xs[k] = false := by simpa using hp
        have HP := Tre.hid hp'
        clear hp
        go_wp2_with fail
        refine (HF.out xs[k] _ hmem hb).mono ?_
        rintro e w' ⟨rfl, hb'⟩
        go_wp2_with fail
        go_roundw
        case rel =>
          refine ⟨k + 1, by omega, by go_num, fun j hj hjk => ?_, hb.trans (hb'.mono hb.size)⟩
          by_cases e : j = k
          · subst e; exact HP.out
          · exact HR.out j hj (by omega)
        case measure => simp [intOf]; omega
    · have HO := Tre.hid (idxFunc_miss (p := p) (xs := xs) (fun j hj => HR.out j hj (by omega)))
      go_wp2_with fail
      go_ret
      exact ⟨ret_int HO.out.symm, hb⟩

set_option maxHeartbeats 1000000 in
theorem containsInts (F : Nat) (caps : Array Value) (hcf : ∀ (args : Array Value) (w : World), (callFunc F args).run Try.prog w = .ok (.enter F args) w) (p : Int → Bool)
    (a : Option Addr) (cap : Nat) (xs : List Int) (w : World) (hx : IntsAt w a xs) (hlen : xs.length ≤ 8388608)
    (hF : ∀ x wx, x ∈ xs → Below w.heap.size w wx → Calls Try.prog F (#[.int .i64 x] ++ caps) wx fun e w' => e = .returned (.bool (p x)) ∧ Below wx.heap.size wx w') :
    Calls Try.prog 35 #[.slice a xs.length cap, .func (.func F) #[] caps] w fun e w' => e = .returned (.bool (xs.any p)) ∧ Below w.heap.size w w' := by
  have HI := Tre.hid (indexInts F caps hcf p a cap xs w hx hlen hF)
  have HA := Tre.hid (idxFunc_any p xs)
  clear hF hx hcf
  go_enter Try.func35, Try.ntmps35
  go_wp2_with fail
  refine HI.out.mono ?_
  rintro e w' ⟨rfl, hb'⟩
  go_wp2_with fail
  go_ret
  exact ⟨ret_bool HA.out, hb'⟩

theorem may1 (x : Int) (n : Nat) (b : Nat) (w : World) (hc : w.cell? ⟨b, 0, none⟩ = some (.int .i64 n)) :
    Calls Try.prog 36 #[.int .i64 x, .pointer (some ⟨b, 0, none⟩)] w fun e w' => e = .returned (.bool (outside n x)) ∧ Below w.heap.size w w' := by
  by_cases h0 : x < 0
  · have H : Hid (outside n x = true) := by show _ = _; unfold outside; simp [h0]
    go_enter Try.func36, Try.ntmps36
    go_wp2_with fail
    go_ret
    exact ⟨ret_bool H.out.symm, Below.refl _ _⟩
  · have H : Hid (outside n x = decide ((n : Int) ≤ x)) := by show _ = _; unfold outside; simp [h0]
    go_enter Try.func36, Try.ntmps36
    go_wp2_with fail
    go_ret
    exact ⟨ret_bool H.out.symm, Below.refl _ _⟩
end Go.Proofs.Ytlkfhbmjemjohaa.gr
