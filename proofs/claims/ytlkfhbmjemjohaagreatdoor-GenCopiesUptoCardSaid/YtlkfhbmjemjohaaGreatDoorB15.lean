/- solve: node at whatever class. -/
import Derived.Test.YtlkfhbmjemjohaaGreatDoorB14
set_option linter.unusedVariables false
namespace Go.Proofs.YtlkfhbmjemjohaaGreatDoor.sol
open Go.RowKit Go.Shelf Go.Maps Go.MapKept Go.ChangeMaps Go.Tre lex gr
theorem onAt2 {w W : World} {L : List Res} {f : Tre.Graph} {orig : Nat → Nat} {p : Nat × Nat} {on rank has : List Nat} {waits : List (Nat × Nat)} (hs : SInv f orig p on rank has waits) (h : Mem w W L) (iS iO : Nat) {s gO cO : Nat} {v1 v2 v3 : Value} (hS : L[iS]? = some (cellsR s 64 #[.slice (some ⟨gO, 0, none⟩) f.ns.length cO, v1, v2, v3])) (hO : L[iO]? = some (rowR 3 1 (.slice (some ⟨gO, 0, none⟩) f.ns.length cO) f.ns.length (on.map en))) : OnAt W s gO cO on :=
 ⟨by rw [hs.lon]; exact h.cell iS hS 0 rfl, fun j hj => h.cellAt iO hO j (by rw [List.getElem?_map, List.getD_eq_getElem?_getD, List.getElem?_eq_getElem hj]; rfl), fun j _ => h.freeAt iO hO j, fun j hj => by rw [hs.lon] at hj ⊢; exact hs.on_lt j hj, fun j hj => by rw [hs.lon] at hj; exact hs.on_on j hj⟩
theorem args_least {f : Tre.Graph} {m : Nat} (on : List Nat) : ((f.kids m).map fun a => Value.int .i64 ((leastF on a : Nat) : Int)) = (clsNode (leastF on) (f.nd m)).args.map (Value.int .i64) := by
 simp only [Graph.kids, clsNode, List.map_map]; rfl
theorem args_range (X : Tre.Node) (on : List Nat) (n : Nat) (h : n = X.args.length) : ((List.range n).map fun i => Value.int .i64 ((leastF on (X.args.getD i 0).toNat : Nat) : Int)) = (clsNode (leastF on) X).args.map (Value.int .i64) := by
 subst h
 refine List.ext_getElem (by simp [clsNode]) (fun i h1 h2 => ?_)
 have hi : i < X.args.length := by simpa using h1
 simp only [List.getElem_map, List.getElem_range, clsNode, List.getD_eq_getElem?_getD, List.getElem?_eq_getElem hi, Option.getD_some]
theorem node_any (b12 b10 : Nat) (f : Tre.Graph) (cs : List ClsV) (on : List Nat) (m : Nat) (hm : m < f.ns.length) (w w1 : World) (rs : List Res) (h : SolOk w f cs) (hk : ∀ a ∈ f.kids m, a < f.ns.length)
  (hL : ∀ (a : Nat) (W : World), a < f.ns.length → Mem w W (mapsR cs :: rs) → Calls Tryz.prog 28 #[.int .i64 (a : Int), .pointer (some ⟨b12, 0, none⟩), .pointer (some ⟨b10, 0, none⟩)] W fun e w' => e = .returned (.int .i64 ((leastF on a : Nat) : Int)) ∧ Below W.heap.size W w') (hM : Mem w w1 (mapsR cs :: rs)) :
  Calls Tryz.prog 29 #[aggC (cs.getD m zeroC), leastV b12 b10] w1 fun e w' => ∃ (d : NodeV) (a1 : Option Addr) (c1 : Nat) (a2 : Option Addr) (c2 : Nat), d = ⟨clsNode (leastF on) (f.nd m), .slice a1 d.n.args.length c1, .slice a2 d.n.labels.length c2⟩ ∧ e = .returned (.agg #[.int .i64 d.n.kind, .string d.n.name, .slice a1 d.n.args.length c1, .slice a2 d.n.labels.length c2, .bool d.n.isOpen]) ∧
   Mem w w' (rowR 3 1 (.slice a1 d.n.args.length c1) d.n.args.length (d.n.args.map (Value.int .i64)) :: rowR 9 1 (.slice a2 d.n.labels.length c2) d.n.labels.length (d.n.labels.map Value.string) :: mapsR cs :: rs) := by
 have om := h.ok m hm
 have mm := h.may m hm
 have cm := h.mem hm
 have nm := h.nd m hm
 have wm := h.wide m hm
 have lm := h.lab m hm
 have dl : (f.nd m).args.length = f.deg m := rfl
 have kl := f.kids_len m
 have keyL : ∀ (a : Nat) (W : World), a < f.ns.length → Below w1.heap.size w1 W → Calls Tryz.prog 28 #[.int .i64 (a : Int), .pointer (some ⟨b12, 0, none⟩), .pointer (some ⟨b10, 0, none⟩)] W fun e w' => e = .returned (.int .i64 ((leastF on a : Nat) : Int)) ∧ Below W.heap.size W w' := fun a W ha hb => hL a W ha (hM.quiet hb)
 have flat : ∀ (aa : Option Addr) (ca : Nat), (f.nd m).kind ≠ 3 → (f.nd m).labels = [] → IntsAt w1 aa (f.nd m).args → Calls Tryz.prog 29 #[.agg #[.int .i64 (f.nd m).kind, .string (f.nd m).name, .slice aa (f.nd m).args.length ca, .map none, .bool (f.nd m).isOpen], leastV b12 b10] w1 fun e w' => ∃ (d : NodeV) (a1 : Option Addr) (c1 : Nat) (a2 : Option Addr) (c2 : Nat), d = ⟨clsNode (leastF on) (f.nd m), .slice a1 d.n.args.length c1, .slice a2 d.n.labels.length c2⟩ ∧ e = .returned (.agg #[.int .i64 d.n.kind, .string d.n.name, .slice a1 d.n.args.length c1, .slice a2 d.n.labels.length c2, .bool d.n.isOpen]) ∧
   Mem w w' (rowR 3 1 (.slice a1 d.n.args.length c1) d.n.args.length (d.n.args.map (Value.int .i64)) :: rowR 9 1 (.slice a2 d.n.labels.length c2) d.n.labels.length (d.n.labels.map Value.string) :: mapsR cs :: rs) := by
  intro aa ca k3 hl hI
  refine (node_flat b12 b10 f.ns.length (f.nd m).args.length (f.nd m).kind (f.nd m).name (f.nd m).isOpen aa ca (f.kids m) on w1 (by unfold Graph.kids; rw [casts_kids mm.args]; exact hI) (by rw [kl, dl]) (by rw [dl]; omega) hk keyL).mono ?_
  rintro e w2 ⟨a1, c1, rfl, M2⟩
  have hd : (clsNode (leastF on) (f.nd m)).args.length = (f.nd m).args.length := by simp [clsNode]
  have hll : (clsNode (leastF on) (f.nd m)).labels = [] := hl
  refine ⟨⟨clsNode (leastF on) (f.nd m), .slice a1 (clsNode (leastF on) (f.nd m)).args.length c1, .slice none (clsNode (leastF on) (f.nd m)).labels.length 0⟩, a1, c1, none, 0, rfl, ?_, ?_⟩
  ·simp only [hd, hll]; rfl
  ·have M3 := hM.call M2
   rw [args_least] at M3
   simp only [hd, hll]
   exact M3
 rcases mm.kind with k | k | k
 ·obtain ⟨e1, e2, e3, e4⟩ := om.1 (by rw [nm]; exact k)
  obtain ⟨v1, v2, v3⟩ := mm.var k
  have hz := flat none 0 (by omega) v2 (by rw [v1]; exact row_none _ _)
  have e5 : aggC (cs.getD m zeroC) = .agg #[.int .i64 (f.nd m).kind, .string (f.nd m).name, .slice none (f.nd m).args.length 0, .map none, .bool (f.nd m).isOpen] := by simp only [aggC, nm, e1, e2, e3, e4, v1]; rfl
  rw [e5]; exact hz
 ·obtain ⟨e1, e2, e3, e4⟩ := om.2.1 (by rw [nm]; exact k)
  obtain ⟨v1, v2⟩ := mm.con k
  rw [nm] at e1 e2
  have hz := flat (cs.getD m zeroC).aa (cs.getD m zeroC).ca (by omega) v1 (e2.below hM.below)
  have e5 : aggC (cs.getD m zeroC) = .agg #[.int .i64 (f.nd m).kind, .string (f.nd m).name, .slice (cs.getD m zeroC).aa (f.nd m).args.length (cs.getD m zeroC).ca, .map none, .bool (f.nd m).isOpen] := by simp only [aggC, nm, e1, e4]
  rw [e5]; exact hz
 ·obtain ⟨e1, e2, e3, e4⟩ := om.2.2 (by rw [nm]; exact k)
  obtain ⟨v1, v2⟩ := mm.obj k
  have e5 : aggC (cs.getD m zeroC) = .agg #[.int .i64 3, .string (f.nd m).name, .slice none 0 0, .map (some (cs.getD m zeroC).bm), .bool (f.nd m).isOpen] := by simp only [aggC, nm, e1, e2, e3, e4, k]
  rw [e5]
  refine (node_obj b12 b10 f.ns.length (f.nd m).name (f.nd m).isOpen cs (cs.getD m zeroC) on w w1 rs cm (by rw [nm]; exact k) (by rw [nm]; exact v2) (by rw [nm]; exact v1) (by rw [nm]; exact lm) (by rw [nm, v1, dl]; exact wm) (fun i hi => ?_) hL hM).mono ?_
  ·rw [nm] at hi ⊢
   have hi' : i < (f.nd m).args.length := by rw [← v1]; exact hi
   refine hk _ ?_
   unfold Graph.kids
   rw [List.getD_eq_getElem?_getD, List.getElem?_eq_getElem hi']
   exact List.mem_map.2 ⟨_, List.getElem_mem hi', rfl⟩
  ·rintro e w2 ⟨a1, c1, a2, c2, rfl, M2⟩
   rw [nm] at M2
   have hd : (clsNode (leastF on) (f.nd m)).args.length = (f.nd m).labels.length := by rw [v1]; simp [clsNode]
   have hll : (clsNode (leastF on) (f.nd m)).labels = (f.nd m).labels := rfl
   refine ⟨⟨clsNode (leastF on) (f.nd m), .slice a1 (clsNode (leastF on) (f.nd m)).args.length c1, .slice a2 (clsNode (leastF on) (f.nd m)).labels.length c2⟩, a1, c1, a2, c2, rfl, ?_, ?_⟩
   ·rw [nm]; simp only [hd, hll]
    rw [show (clsNode (leastF on) (f.nd m)).kind = 3 from k]; rfl
   ·rw [args_range (f.nd m) on (f.nd m).labels.length v1] at M2
    simp only [hd, hll]
    exact M2
end Go.Proofs.YtlkfhbmjemjohaaGreatDoor.sol
