/- Types in the memory: parts on their way, apart from each other. -/
import Derived.Test.YtljmcmdabdlldaaGreatDoorB16
set_option linter.unusedVariables false
namespace Go.Tre
open Go.RowKit
def apartR (kids : List Kid) : Res where
 own b := ∃ k ∈ kids, k.O b
 P w := (∀ k ∈ kids, (kidR k).P w) ∧ kids.Pairwise fun (x y : Kid) => ∀ b, x.O b → ¬ y.O b
 stable w w' h hs := ⟨fun k hk => (kidR k).stable _ _ (h.1 k hk) (fun b hb => hs b ⟨k, hk, hb⟩), h.2⟩
 has w h b hb := by obtain ⟨k, hk, hb⟩ := hb; exact (kidR k).has w (h.1 k hk) b hb
section
variable {w0 w : World} {rs : List Res}
theorem Mem.apartNil (h : Mem w0 w rs) : Mem w0 w (apartR [] :: rs) :=
 ⟨h.below, fun s hs => by
  rcases List.mem_cons.1 hs with rfl | hs
  ·exact ⟨⟨fun r hr => by simp at hr, List.Pairwise.nil⟩, fun b hb => by obtain ⟨r, hr, _⟩ := hb; simp at hr⟩
  ·exact h.all s hs, List.pairwise_cons.2 ⟨fun _ _ _ hb _ => by obtain ⟨r, hr, _⟩ := hb; simp at hr, h.sep⟩⟩
theorem Mem.apartInto {k : Kid} {kids : List Kid} (h : Mem w0 w (kidR k :: apartR kids :: rs)) : Mem w0 w (apartR (kids ++ [k]) :: rs) := by
 have hs := List.pairwise_cons.1 h.sep
 have hj := h.join
 refine hj.as_ 0 rfl (apartR (kids ++ [k])) (fun hp => ⟨?_, ?_⟩) (fun b hb => ?_)
 ·intro x hx
  rcases List.mem_append.1 hx with hx | hx
  ·exact hp.2.1 x hx
  ·simp at hx; subst hx; exact hp.1
 ·refine List.pairwise_append.2 ⟨hp.2.2, List.pairwise_singleton _ _, fun x hx y hy b hb hb' => ?_⟩
  simp at hy; subst hy
  exact hs.1 (apartR kids) (by simp) b hb' ⟨x, hx, hb⟩
 ·obtain ⟨x, hx, hb⟩ := hb
  rcases List.mem_append.1 hx with hx | hx
  ·exact .inr ⟨x, hx, hb⟩
  ·simp at hx; subst hx; exact .inl hb
theorem Mem.apartOut {kids : List Kid} (h : Mem w0 w (apartR kids :: rs)) : Mem w0 w (kids.map kidR ++ rs) := by
 have hs := List.pairwise_cons.1 h.sep
 have hp := h.all _ (List.mem_cons_self ..)
 refine ⟨h.below, fun r hr => ?_, List.pairwise_append.2 ⟨List.pairwise_map.2 hp.1.2, hs.2, fun a ha r hr b hb hb' => ?_⟩⟩
 ·rcases List.mem_append.1 hr with hr | hr
  ·obtain ⟨k, hk, rfl⟩ := List.mem_map.1 hr
   exact ⟨hp.1.1 k hk, fun b hb => hp.2 b ⟨k, hk, hb⟩⟩
  ·exact h.all r (by simp [hr])
 ·obtain ⟨k, hk, rfl⟩ := List.mem_map.1 ha
  exact hs.1 r hr b ⟨k, hk, hb⟩ hb'
theorem Mem.apartRows {kids : List Kid} {r s : Res} (h : Mem w0 w (r :: s :: apartR kids :: rs)) : Mem w0 w (r :: s :: (kids.map kidR ++ rs)) :=
 ((h.front 2 rfl).apartOut : Mem w0 w (kids.map kidR ++ r :: s :: rs)).perm (List.perm_middle.trans (List.Perm.cons _ List.perm_middle))
theorem kidCells_snoc (kids : List Kid) (k : Kid) : kidCells (kids ++ [k]) = kidCells kids ++ k.V.toList := by simp [kidCells]
end
end Go.Tre
