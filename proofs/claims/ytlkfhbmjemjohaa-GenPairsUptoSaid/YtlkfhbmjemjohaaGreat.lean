/- Great: how much a graph is. -/
import Derived.Test.YtlkfhbmjemjohaaRows
import Derived.Test.YtlkfhbmjemjohaaRep
import Derived.WalkSpells

import Derived.WalkLawsBesides
namespace Go.Tre
def big (s : ByteArray) : Nat := if 1000 < s.size then 1000 else 0
def Node.great (n : Node) : Nat := n.args.length + n.labels.length + big n.name + (n.labels.map big).sum
def Graph.great (g : Graph) : Nat := g.ns.length + (g.ns.map Node.great).sum
theorem big_le (s : ByteArray) : big s ≤ s.size := by unfold big; split <;> omega
theorem bigs_le (l : List ByteArray) : (l.map big).sum + l.length ≤ (l.map fun s => s.size + 1).sum := by
  induction l with
  | nil => simp
  | cons s r ih => have := big_le s; simp; omega
theorem Node.great_le (n : Node) : n.great + 1 ≤ n.weight := by
  have := big_le n.name; have := bigs_le n.labels
  unfold Node.great Node.weight; omega
theorem Graph.great_le (g : Graph) : g.great ≤ g.weight := by
  unfold Graph.great Graph.weight
  have : ∀ l : List Node, l.length + (l.map Node.great).sum ≤ (l.map Node.weight).sum := fun l => by
    induction l with
    | nil => simp
    | cons x r ih => have := x.great_le; simp; omega
  exact this g.ns
end Go.Tre

namespace Go.Proofs.Ytlkfhbmjemjohaa.great
open Go.RowKit Go.Tre

set_option maxHeartbeats 1000000 in
theorem great (a : Option Addr) (cap : Nat) (g : Graph) (w : World) (hw : g.weight ≤ 8388608) (hn : NodesAt w a g.ns) :
    Calls Try.prog 18 #[.agg #[.slice a g.ns.length cap, .int .i64 g.root]] w fun e w' => e = .returned (.int .i64 g.great) ∧ Below w.heap.size w w' := by
  have hlen : g.ns.length ≤ 8388608 := Nat.le_trans (length_le_sum _ (fun x => by unfold Node.weight; omega) _) hw
  go_enter Try.func18, Try.ntmps18
  go_wp2_with fail
  go_loopw [3, 14] (fun t i wr => ∃ k : Nat, k ≤ g.ns.length ∧ i = .int .i64 k ∧ t = .int .i64 ((g.ns.length + ((g.ns.take k).map Node.great).sum : Nat) : Int) ∧ Below w.heap.size w wr) (fun _ i _ => g.ns.length - (intOf i).toNat)
  case atStart => exact ⟨0, Nat.zero_le _, rfl, by simp, (Below.refl _ _).alloc (Nat.le_refl _) _⟩
  case round =>
    obtain ⟨k, hk, rfl, rfl, hb⟩ := hrel
    by_cases hlt : k < g.ns.length
    · have hx : g.ns[k]? = some g.ns[k] := List.getElem?_eq_getElem hlt
      obtain ⟨b, off, rfl, hna⟩ := (hn.below hb).at_ k _ hx
      obtain ⟨aa, ca, al, cl, h0, h1, h2, h3, h4, _, h6, _, _⟩ := hna
      have hs1 := sum_take_succ Node.great g.ns k _ hx
      have hs2 := sum_take_le Node.great g.ns (k + 1)
      have hgw := g.great_le
      have hgg : g.great = g.ns.length + (g.ns.map Node.great).sum := rfl
      have hng : g.ns[k].great = g.ns[k].args.length + g.ns[k].labels.length + big g.ns[k].name + (g.ns[k].labels.map big).sum := rfl
      generalize hS : ((g.ns.take k).map Node.great).sum = S at *
      have HS := Tre.hid hS
      clear hS hn
      generalize hnd : g.ns[k] = nd at *
      clear hnd
      have hbig : big nd.name = if 1000 < nd.name.size then 1000 else 0 := rfl
      have hbw : Below w.heap.size w (wr.alloc (.cells #[.int .i64 nd.kind, .string nd.name, .slice aa nd.args.length ca, .slice al nd.labels.length cl, .bool nd.isOpen] 38)) := hb.alloc hb.size _
      have HB := Tre.hid hbw
      have HX := Tre.hid hx
      have HG := Tre.hid hgg
      have H1 := Tre.hid hs1
      have HN := Tre.hid hng
      have bd : g.ns.length + S + nd.args.length + nd.labels.length + big nd.name + (nd.labels.map big).sum ≤ 8388608 := by omega
      clear hbw hx hgg hs1 hng hb hs2 hgw
      by_cases hnm : 1000 < nd.name.size
      · rw [if_pos hnm] at hbig
        rw [hbig] at bd
        have HBG := Tre.hid hbig
        clear hbig
        go_wp2_with fail
        go_loopw [3, 36] (fun t i wi => ∃ j : Nat, j ≤ nd.labels.length ∧ i = .int .i64 j ∧ t = .int .i64 ((g.ns.length + S + (nd.args.length + nd.labels.length) + 1000 + ((nd.labels.take j).map big).sum : Nat) : Int) ∧ Below w.heap.size w wi ∧ Below wr.heap.size wr wi) (fun _ i _ => nd.labels.length - (intOf i).toNat)
        case atStart => exact ⟨0, Nat.zero_le _, rfl, congrArg (Value.int .i64) (by simp), HB.out, (Below.refl _ _).alloc (Nat.le_refl _) _⟩
        case round =>
          obtain ⟨j, hj, rfl, rfl, hb, hbr⟩ := hrel
          have t2 := sum_take_le big nd.labels (j + 1)
          by_cases hjl : j < nd.labels.length
          · have hy : nd.labels[j]? = some nd.labels[j] := List.getElem?_eq_getElem hjl
            obtain ⟨b2, o2, rfl, hc⟩ := (h6.below hbr).at_ j (.string nd.labels[j]) (by simp [hy])
            have t1 := sum_take_succ big nd.labels j _ hy
            generalize nd.labels[j] = s at *
            generalize hU : ((nd.labels.take j).map big).sum = U at *
            have HU := Tre.hid hU
            clear hU hy
            have hbg : big s = if 1000 < s.size then 1000 else 0 := rfl
            have T1 := Tre.hid t1
            by_cases hsz : 1000 < s.size
            · rw [if_pos hsz] at hbg
              have bd' : g.ns.length + S + nd.args.length + nd.labels.length + 1000 + U + 1000 ≤ 8388608 := by omega
              have HV := Tre.hid hbg
              clear hbg t1 t2
              go_wp2_with fail
              go_roundw
              case rel => exact ⟨j + 1, by omega, rfl, congrArg (Value.int .i64) (by rw [T1.out, HV.out]; omega), hb, hbr⟩
              case measure => simp [intOf]; omega
            · rw [if_neg hsz] at hbg
              have bd' : g.ns.length + S + nd.args.length + nd.labels.length + 1000 + U ≤ 8388608 := by omega
              have HV := Tre.hid hbg
              clear hbg t1 t2
              go_wp2_with fail
              go_roundw
              case rel => exact ⟨j + 1, by omega, rfl, congrArg (Value.int .i64) (by rw [T1.out, HV.out]; omega), hb, hbr⟩
              case measure => simp [intOf]; omega
          · have hjj : j = nd.labels.length := by omega
            have e0 : Hid (((nd.labels.take j).map big).sum = (nd.labels.map big).sum) := by rw [List.take_of_length_le (by omega)]; rfl
            clear hjj t2
            go_wp2_with fail
            go_roundw
            case rel => exact ⟨k + 1, by omega, rfl, congrArg (Value.int .i64) (by rw [H1.out, HN.out, e0.out, HBG.out]; omega), hb⟩
            case measure => simp [intOf]; omega
      · rw [if_neg hnm] at hbig
        rw [hbig] at bd
        have HBG := Tre.hid hbig
        clear hbig
        go_wp2_with fail
        go_loopw [3, 36] (fun t i wi => ∃ j : Nat, j ≤ nd.labels.length ∧ i = .int .i64 j ∧ t = .int .i64 ((g.ns.length + S + (nd.args.length + nd.labels.length) + 0 + ((nd.labels.take j).map big).sum : Nat) : Int) ∧ Below w.heap.size w wi ∧ Below wr.heap.size wr wi) (fun _ i _ => nd.labels.length - (intOf i).toNat)
        case atStart => exact ⟨0, Nat.zero_le _, rfl, congrArg (Value.int .i64) (by simp), HB.out, (Below.refl _ _).alloc (Nat.le_refl _) _⟩
        case round =>
          obtain ⟨j, hj, rfl, rfl, hb, hbr⟩ := hrel
          have t2 := sum_take_le big nd.labels (j + 1)
          by_cases hjl : j < nd.labels.length
          · have hy : nd.labels[j]? = some nd.labels[j] := List.getElem?_eq_getElem hjl
            obtain ⟨b2, o2, rfl, hc⟩ := (h6.below hbr).at_ j (.string nd.labels[j]) (by simp [hy])
            have t1 := sum_take_succ big nd.labels j _ hy
            generalize nd.labels[j] = s at *
            generalize hU : ((nd.labels.take j).map big).sum = U at *
            have HU := Tre.hid hU
            clear hU hy
            have hbg : big s = if 1000 < s.size then 1000 else 0 := rfl
            have T1 := Tre.hid t1
            by_cases hsz : 1000 < s.size
            · rw [if_pos hsz] at hbg
              have bd' : g.ns.length + S + nd.args.length + nd.labels.length + 0 + U + 1000 ≤ 8388608 := by omega
              have HV := Tre.hid hbg
              clear hbg t1 t2
              go_wp2_with fail
              go_roundw
              case rel => exact ⟨j + 1, by omega, rfl, congrArg (Value.int .i64) (by rw [T1.out, HV.out]; omega), hb, hbr⟩
              case measure => simp [intOf]; omega
            · rw [if_neg hsz] at hbg
              have bd' : g.ns.length + S + nd.args.length + nd.labels.length + 0 + U ≤ 8388608 := by omega
              have HV := Tre.hid hbg
              clear hbg t1 t2
              go_wp2_with fail
              go_roundw
              case rel => exact ⟨j + 1, by omega, rfl, congrArg (Value.int .i64) (by rw [T1.out, HV.out]; omega), hb, hbr⟩
              case measure => simp [intOf]; omega
          · have hjj : j = nd.labels.length := by omega
            have e0 : Hid (((nd.labels.take j).map big).sum = (nd.labels.map big).sum) := by rw [List.take_of_length_le (by omega)]; rfl
            clear hjj t2
            go_wp2_with fail
            go_roundw
            case rel => exact ⟨k + 1, by omega, rfl, congrArg (Value.int .i64) (by rw [H1.out, HN.out, e0.out, HBG.out]; omega), hb⟩
            case measure => simp [intOf]; omega
    · have hkk : k = g.ns.length := by omega
      go_wp2_with fail
      go_ret
      refine ⟨?_, hb⟩
      rw [List.take_of_length_le (by omega)]
      rfl
end Go.Proofs.Ytlkfhbmjemjohaa.great
