/- TypObjects, plain: names gone through. -/
import Derived.Test.YtbafalfmgibnfaaGreatDoorB28
import Derived.Test.YtbafalfmgibnfaaGreatDoorB00
import Derived.Test.YtbafalfmgibnfaaGreatDoorB13
set_option linter.unusedVariables false
namespace Go.Tre
open Go.RowKit Go.Maps
def dupB (l : List ByteArray) : Bool := !decide l.Nodup
def hasB (l : List ByteArray) (s : ByteArray) : Bool := l.any fun x => decide (x = s)
theorem has_iff {l : List ByteArray} {s : ByteArray} : hasB l s = true ↔ s ∈ l := by
 unfold hasB
 rw [List.any_eq_true]
 constructor
 ·rintro ⟨x, hx, h⟩
  rw [decide_eq_true_eq] at h
  exact h ▸ hx
 ·exact fun h => ⟨s, h, by simp⟩
def metM (l : List ByteArray) : ByteArray → Option Bool := fun x => if hasB l x = true then some true else none
def lstB (s : ByteArray) : List UInt8 := s.data.toList
theorem dup_snoc (l : List ByteArray) (s : ByteArray) : dupB (l ++ [s]) = (dupB l || hasB l s) := by
 unfold dupB
 rw [Bool.eq_iff_iff]
 simp only [Bool.not_eq_true', decide_eq_false_iff_not, Bool.or_eq_true, has_iff, List.nodup_append]
 constructor
 ·intro h
  by_cases h1 : l.Nodup
  ·refine .inr (Classical.byContradiction fun h2 => h ⟨h1, by simp, fun a ha b hb e => ?_⟩)
   rw [List.mem_singleton] at hb
   exact h2 (hb ▸ e ▸ ha)
  ·exact .inl h1
 ·rintro (h | h) ⟨h1, _, h3⟩
  ·exact h h1
  ·exact h3 s h s (List.mem_singleton.2 rfl) rfl
theorem met_snoc (l : List ByteArray) (s : ByteArray) : upd (metM l) s true = metM (l ++ [s]) := by
 funext x
 unfold upd metM
 by_cases h : x = s
 ·rw [if_pos h, if_pos (has_iff.2 (by rw [h]; simp))]
 ·rw [if_neg h]
  have e : hasB (l ++ [s]) x = hasB l x := by
   rw [Bool.eq_iff_iff, has_iff, has_iff, List.mem_append, List.mem_singleton]
   exact ⟨fun q => q.resolve_right h, .inl⟩
  rw [e]
theorem met_look (l : List ByteArray) (s : ByteArray) : ((metM l s).map Value.bool).getD (.bool false) = .bool (hasB l s) := by
 unfold metM
 cases hasB l s <;> rfl
structure ObjsUp (pa : List UInt8) (l : List ByteArray) (N : Nat) (tx : ByteArray) (tb : Bool) : Prop where
 text : tx.data.toList = [60, 32] ++ fldsText pa (l.map lstB)
 names : ∀ s ∈ l, isName s = true
 dup : tb = dupB l
 cnt : dupB l = false → N = l.length
theorem name_few {s : ByteArray} (h : isName s = true) : s.size ≤ 100 := by
 unfold isName at h
 simp only [Bool.and_eq_true, decide_eq_true_eq] at h
 omega
theorem ObjsUp.size {pa : List UInt8} {l : List ByteArray} {N : Nat} {tx : ByteArray} {tb : Bool} (h : ObjsUp pa l N tx tb) : tx.size ≤ 2 + l.length * (pa.length + 108) := by
 have e : tx.size = tx.data.toList.length := rfl
 rw [e, h.text, List.length_append]
 have := fldsText_len pa (l.map lstB) (fun s hs => by
  obtain ⟨x, hx, rfl⟩ := List.mem_map.1 hs
  exact name_few (h.names x hx))
 rw [List.length_map] at this
 simp only [List.length_cons, List.length_nil]
 omega
theorem ObjsUp.nil (pa : List UInt8) : ObjsUp pa [] 0 ⟨#[60, 32]⟩ false := ⟨rfl, by simp, rfl, fun _ => rfl⟩
theorem ObjsUp.snoc {pa : List UInt8} {l : List ByteArray} {N : Nat} {tx : ByteArray} {tb : Bool} (h : ObjsUp pa l N tx tb) {s : ByteArray} (hs : isName s = true) :
  ObjsUp pa (l ++ [s]) (if (metM l s).isSome then N else N + 1) (tx ++ (s ++ (⟨#[32, 58, 32, 40]⟩ : ByteArray) ++ (⟨pa.toArray⟩ : ByteArray) ++ (⟨#[41, 32, 59, 32]⟩ : ByteArray))) (tb || hasB l s) := by
 refine ⟨?_, fun x hx => ?_, by rw [dup_snoc, h.dup], fun hd => ?_⟩
 ·rw [List.map_append, List.map_cons, List.map_nil, fldsText_snoc]
  have ht := h.text
  unfold fldText lstB
  simp [ByteArray.data_append, ht]
  rfl
 ·rw [List.mem_append, List.mem_singleton] at hx
  rcases hx with hx | rfl
  ·exact h.names x hx
  ·exact hs
 ·rw [dup_snoc, Bool.or_eq_false_iff] at hd
  rw [show (metM l s).isSome = false by unfold metM; rw [hd.2]; rfl, List.length_append]
  simp [h.cnt hd.1]
theorem lst_inj {a b : ByteArray} (h : lstB a = lstB b) : a = b := by
 unfold lstB at h
 exact ByteArray.ext (Array.toList_inj.1 h)
theorem dup_lst (l : List ByteArray) : dupB l = true ↔ ¬ (l.map lstB).Nodup := by
 unfold dupB
 have : (l.map lstB).Nodup ↔ l.Nodup := by
  unfold List.Nodup
  rw [List.pairwise_map]
  constructor
  ·exact fun h => h.imp fun hab e => hab (by rw [e])
  ·exact fun h => h.imp fun hab e => hab (lst_inj e)
 rw [this]
 simp
end Go.Tre
