/- Types in the memory: a value of five cells, its parts and labels in blocks of a set O; parts apart from each other. slices.Index, Contains over strings; slices.IndexFunc over tokens; typ.text; slices.BinarySearch where all stand ahead. Layer 7, plain: a text, read as a graph: each step of the way. Layers 7, 9, plain: the texts of canon's example. Layer 13: plain. What is marked, fixed, generic; the fresh copy. -/
import Derived.Test.YtaleodkbghogfaaGreatDoorB00
import Derived.Test.YtaleodkbghogfaaGreatDoorB06
import Derived.Test.YtaleodkbghogfaaGreatDoorB01
import Derived.Test.YtaleodkbghogfaaGreatDoorB16
import Derived.Test.YtaleodkbghogfaaGreatDoorB08
import Derived.Test.YtaleodkbghogfaaGreatDoorB07
set_option linter.unusedVariables false
namespace Go.Tre
open Go.RowKit
inductive TyIn (w : World) : (Nat → Prop) → Ty → Value → Prop
 | mk {O : Nat → Prop} {k : Nat} {s : List UInt8} {args : List Ty} {labels : List (List UInt8)} {o : Bool} {aa : Option Addr} {ca : Nat} {al : Option Addr} {cl : Nat} (V : Nat → Array Value) (OO : Nat → Nat → Prop)
   (hc : args.length ≤ ca) (hl : labels.length ≤ cl)
   (hlab : ∀ (i : Nat) (x : List UInt8), labels[i]? = some x → ∃ b off, al = some ⟨b, off, none⟩ ∧ O b ∧ w.cell? ⟨b, off + i, none⟩ = some (.string ⟨x.toArray⟩))
   (hcell : ∀ i : Nat, i < args.length → ∃ b off, aa = some ⟨b, off, none⟩ ∧ O b ∧ (∃ cs T, w.heap[b]? = some (.cells cs T (0, 0))) ∧ (∀ j, ¬ OO j b) ∧ (V i).size = 5 ∧ ∀ (j : Nat) (u : Value), (V i)[j]? = some u → w.cell? ⟨b, off + i * 5 + j, none⟩ = some u)
   (hsub : ∀ i b, OO i b → O b) (hdis : ∀ i j b, OO i b → OO j b → i = j)
   (hargs : ∀ (i : Nat) (t : Ty), args[i]? = some t → TyIn w (OO i) t (.agg (V i))) :
   TyIn w O (.mk k s args labels o) (.agg #[.int .i64 k, .string ⟨s.toArray⟩, .slice aa args.length ca, .slice al labels.length cl, .bool o])
theorem cell_heap {w w' : World} {b j : Nat} {u : Value} (h : w'.heap[b]? = w.heap[b]?) (hc : w.cell? ⟨b, j, none⟩ = some u) : w'.cell? ⟨b, j, none⟩ = some u := by
 rw [World.cell?_of_block (a := ⟨b, j, none⟩) h]; exact hc
theorem TyIn.keep {O : Nat → Prop} {w w' : World} {t : Ty} {v : Value} (h : TyIn w O t v) (hw : ∀ b, O b → w'.heap[b]? = w.heap[b]?) : TyIn w' O t v := by
 induction h with
 | mk V OO hc hl hlab hcell hsub hdis hargs ih =>
  refine .mk V OO hc hl (fun i x hx => ?_) (fun i hi => ?_) hsub hdis (fun i t ht => ih i t ht (fun b hb => hw b (hsub i b hb)))
  ·obtain ⟨b, off, e, ho, hcc⟩ := hlab i x hx
   exact ⟨b, off, e, ho, cell_heap (hw b ho) hcc⟩
  ·obtain ⟨b, off, e, ho, ⟨cs, T, hp⟩, hn, hs, hcc⟩ := hcell i hi
   exact ⟨b, off, e, ho, ⟨cs, T, (hw b ho).trans hp⟩, hn, hs, fun j u hu => cell_heap (hw b ho) (hcc j u hu)⟩
theorem TyIn.wide {O O' : Nat → Prop} {w : World} {t : Ty} {v : Value} (h : TyIn w O t v) (hO : ∀ b, O b → O' b) : TyIn w O' t v := by
 cases h with
 | mk V OO hc hl hlab hcell hsub hdis hargs =>
  refine .mk V OO hc hl (fun i x hx => ?_) (fun i hi => ?_) (fun i b hb => hO b (hsub i b hb)) hdis hargs
  ·obtain ⟨b, off, e, ho, hcc⟩ := hlab i x hx
   exact ⟨b, off, e, hO b ho, hcc⟩
  ·obtain ⟨b, off, e, ho, hr⟩ := hcell i hi
   exact ⟨b, off, e, hO b ho, hr⟩
theorem TyIn.agg {w : World} {O : Nat → Prop} {t : Ty} {v : Value} (h : TyIn w O t v) : ∃ aa ca al cl, v = .agg #[.int .i64 t.kind, .string ⟨t.s.toArray⟩, .slice aa t.args.length ca, .slice al t.labels.length cl, .bool t.opn] ∧ t.args.length ≤ ca ∧ t.labels.length ≤ cl := by
 cases h with
 | mk V OO hc hl => exact ⟨_, _, _, _, rfl, hc, hl⟩
def tyR (O : Nat → Prop) (t : Ty) (v : Value) : Res where
 own b := O b
 P w := TyIn w O t v ∧ ∀ b, O b → b < w.heap.size
 stable w w' h hs := ⟨h.1.keep hs, fun b hb => by
  have h1 := h.2 b hb
  have h2 := hs b hb
  rw [Array.getElem?_eq_getElem h1] at h2
  exact (Array.getElem?_eq_some_iff.1 h2).1⟩
 has w h b hb := h.2 b hb
theorem Mem.fold {w0 w : World} {ls rs : List Res} {r : Res} (h : Mem w0 w (ls ++ rs)) (hP : r.P w) (hb : ∀ b, r.own b → ∃ a ∈ ls, a.own b) : Mem w0 w (r :: rs) := by
 have hp := List.pairwise_append.1 h.sep
 refine ⟨h.below, fun x hx => ?_, List.pairwise_cons.2 ⟨fun s hs b hr hsb => ?_, hp.2.1⟩⟩
 ·rcases List.mem_cons.1 hx with rfl | hx
  ·refine ⟨hP, fun b hr => ?_⟩
   obtain ⟨a, ha, hab⟩ := hb b hr
   exact (h.all a (List.mem_append.2 (.inl ha))).2 b hab
  ·exact h.all x (List.mem_append.2 (.inr hx))
 ·obtain ⟨a, ha, hab⟩ := hb b hr
  exact hp.2.2 a ha s hs b hab hsb
structure Kid where
 t : Ty
 V : Array Value
 O : Nat → Prop
abbrev kidR (k : Kid) : Res := tyR k.O k.t (.agg k.V)
def kidCells (l : List Kid) : List Value := l.flatMap fun k => k.V.toList
theorem five_len {l : List Kid} (h : ∀ k ∈ l, k.V.size = 5) : (kidCells l).length = l.length * 5 := by
 unfold kidCells
 induction l with
 | nil => rfl
 | cons k l ih =>
  have h0 := h k (by simp)
  rw [List.flatMap_cons, List.length_append, ih (fun x hx => h x (by simp [hx])), List.length_cons, Array.length_toList, h0]; omega
theorem five_at : ∀ {l : List Kid} (i j : Nat) (k : Kid) (u : Value), (∀ k ∈ l, k.V.size = 5) → l[i]? = some k → k.V[j]? = some u → (kidCells l)[i * 5 + j]? = some u := by
 intro l
 induction l with
 | nil => intro i j k u _ h; simp at h
 | cons x r ih =>
  intro i j k u h5 h hu
  have h0 := h5 x (by simp)
  unfold kidCells
  rw [List.flatMap_cons]
  cases i with
  | zero =>
   simp at h
   subst h
   have hj := (Array.getElem?_eq_some_iff.1 hu).1
   rw [Nat.zero_mul, Nat.zero_add, List.getElem?_append_left (by rw [Array.length_toList]; exact hj), Array.getElem?_toList, hu]
  | succ i =>
   simp at h
   rw [List.getElem?_append_right (by rw [Array.length_toList]; omega), Array.length_toList, h0, show (i + 1) * 5 + j - 5 = i * 5 + j by omega]
   exact ih i j k u (fun y hy => h5 y (by simp [hy])) h hu
theorem TyIn.five {w : World} {O : Nat → Prop} {t : Ty} {V : Array Value} (h : TyIn w O t (.agg V)) : V.size = 5 := by
 obtain ⟨aa, ca, al, cl, e, _⟩ := h.agg
 cases e; rfl
def mkO (va vl : Value) (l : List Kid) (b : Nat) : Prop := va.ownBlock = some b ∨ vl.ownBlock = some b ∨ ∃ k ∈ l, k.O b
theorem Mem.tyMake {w0 w : World} {rs : List Res} {T S : TypeId} {aa al : Option Addr} {ca cl n m : Nat} {kids : List Kid} {cs : List Value} {labels : List (List UInt8)} (k : Nat) (s : List UInt8) (o : Bool)
  (h : Mem w0 w (rowR T 5 (.slice aa n ca) n cs :: rowR S 1 (.slice al m cl) m (labels.map fun x => .string ⟨x.toArray⟩) :: (kids.map kidR ++ rs))) (hn : n = kids.length) (hm : m = labels.length) (hcs : cs = kidCells kids) :
  Mem w0 w (tyR (mkO (.slice aa n ca) (.slice al m cl) kids) (.mk k s (kids.map Kid.t) labels o) (.agg #[.int .i64 k, .string ⟨s.toArray⟩, .slice aa n ca, .slice al m cl, .bool o]) :: rs) := by
 subst hn hm hcs
 have h' : Mem w0 w ((rowR T 5 (.slice aa kids.length ca) kids.length (kidCells kids) :: rowR S 1 (.slice al labels.length cl) labels.length (labels.map fun x => .string ⟨x.toArray⟩) :: kids.map kidR) ++ rs) := h
 have hk : ∀ x ∈ kids, (kidR x).P w := fun x hx => (h'.all _ (by simp; exact .inr (.inr (.inl ⟨x, hx, rfl⟩)))).1
 have h5 : ∀ x ∈ kids, x.V.size = 5 := fun x hx => (hk x hx).1.five
 have hra := h'.at_ 0 rfl
 have hrl := h'.at_ 1 rfl
 have hsep := (List.pairwise_append.1 h'.sep).1
 have hsep1 := List.pairwise_cons.1 hsep
 have hsep2 := List.pairwise_cons.1 hsep1.2
 obtain ⟨ra, rca, ea, hca⟩ := h'.val 0 rfl
 cases ea
 obtain ⟨rl, rcl, el, hcl⟩ := h'.val 1 rfl
 cases el
 have hpw : ∀ (i j : Nat) (x y : Kid), kids[i]? = some x → kids[j]? = some y → i ≠ j → ∀ b, x.O b → ¬ y.O b := by
  intro i j x y hx hy hne b hb hb'
  have hp := List.pairwise_map.1 hsep2.2
  rw [List.pairwise_iff_getElem] at hp
  obtain ⟨hi, rfl⟩ := List.getElem?_eq_some_iff.1 hx
  obtain ⟨hj, rfl⟩ := List.getElem?_eq_some_iff.1 hy
  rcases Nat.lt_or_gt_of_ne hne with h1 | h1
  ·exact hp i j hi hj h1 b hb hb'
  ·exact hp j i hj hi h1 b hb' hb
 refine h'.fold (r := tyR _ _ _) ⟨?_, ?_⟩ ?_
 ·have key : TyIn w (mkO (.slice aa kids.length ca) (.slice al labels.length cl) kids) (.mk k s (kids.map Kid.t) labels o) (.agg #[.int .i64 k, .string ⟨s.toArray⟩, .slice aa (kids.map Kid.t).length ca, .slice al labels.length cl, .bool o]) := by
   refine .mk (fun i => (kids[i]?.map Kid.V).getD #[]) (fun i b => ∃ x, kids[i]? = some x ∧ x.O b) (by simpa using hca) hcl (fun i x hx => ?_) (fun i hi => ?_) (fun i b hb => ?_) (fun i j b hb hb' => ?_) (fun i t ht => ?_)
   ·have hx' : (labels.map fun x => Value.string ⟨x.toArray⟩)[i]? = some (.string ⟨x.toArray⟩) := by rw [List.getElem?_map, hx]; rfl
    obtain ⟨g, rfl, _, _, hc⟩ := h'.getRow 1 rfl i hx'
    exact ⟨g, 0, rfl, .inr (.inl rfl), by rw [Nat.zero_add]; exact hc⟩
   ·have hi' : i < kids.length := by simpa using hi
    have hki : kids[i]? = some kids[i] := List.getElem?_eq_getElem hi'
    have h5i := h5 _ (List.getElem_mem hi')
    have hfirst : (kidCells kids)[i * 5 + 0]? = some (kids[i].V[0]'(by omega)) := five_at i 0 kids[i] _ h5 hki (Array.getElem?_eq_getElem (by omega))
    obtain ⟨g, rfl, _, _, _⟩ := h'.getRow 0 rfl _ hfirst
    have hpl : ∃ cs T, w.heap[g]? = some (.cells cs T (0, 0)) := by
     rcases (h'.row 0 rfl).2 with ⟨e1, _⟩ | ⟨g', cap, cur, e1, _, hg, _⟩
     ·cases e1
     ·cases e1; exact ⟨_, _, hg⟩
    refine ⟨g, 0, rfl, .inl rfl, hpl, fun j ⟨x, hx, hxo⟩ => ?_, by rw [hki]; exact h5i, fun j u hu => ?_⟩
    ·exact hsep1.1 (kidR x) (by simp; exact .inr ⟨x, List.mem_of_getElem? hx, rfl⟩) g rfl hxo
    ·rw [hki] at hu
     rw [Nat.zero_add]
     exact h'.cellAt 0 rfl _ (five_at i j kids[i] u h5 hki hu)
   ·obtain ⟨x, hx, hxo⟩ := hb
    exact .inr (.inr ⟨x, List.mem_of_getElem? hx, hxo⟩)
   ·obtain ⟨x, hx, hxo⟩ := hb
    obtain ⟨y, hy, hyo⟩ := hb'
    refine Classical.byContradiction fun hne => ?_
    exact hpw i j x y hx hy hne b hxo hyo
   ·rw [List.getElem?_map] at ht
    obtain ⟨x, hx, rfl⟩ := Option.map_eq_some_iff.1 ht
    simp only [hx, Tre.qd, Option.getD_some]
    refine (hk x (List.mem_of_getElem? hx)).1.wide (fun b hb => ⟨x, rfl, hb⟩)
  rw [List.length_map] at key
  exact key
 ·rintro b (hb | hb | ⟨x, hx, hb⟩)
  ·exact (rowR T 5 (.slice aa kids.length ca) kids.length (kidCells kids)).has w hra b hb
  ·exact (rowR S 1 (.slice al labels.length cl) labels.length _).has w hrl b hb
  ·exact (kidR x).has w (hk x hx) b hb
 ·rintro b (hb | hb | ⟨x, hx, hb⟩)
  ·exact ⟨_, List.mem_cons_self .., hb⟩
  ·exact ⟨_, List.mem_cons_of_mem _ (List.mem_cons_self ..), hb⟩
  ·exact ⟨kidR x, by simp; exact .inr (.inr ⟨x, hx, rfl⟩), hb⟩
end Go.Tre
namespace Go.Tre
theorem bsGo_all (less : Nat → Bool) (n : Nat) (h : ∀ t, t < n → less t = true) : ∀ (f lo hi : Nat), lo ≤ hi → hi ≤ n → hi - lo ≤ f → Lib.bsGo less f lo hi = hi
 | 0, lo, hi, h1, _, h2 => by simp [Lib.bsGo]; omega
 | f + 1, lo, hi, h1, h3, h2 => by
  unfold Lib.bsGo
  split
  ·rw [h _ (by omega), if_pos rfl]
   exact bsGo_all less n h f _ hi (by omega) h3 (by omega)
  ·omega
theorem less_is : ∀ (x y : List UInt8), Op.bytesLess x y = lessS x y
 | [], [] => rfl
 | [], _ :: _ => rfl
 | _ :: _, [] => rfl
 | a :: x, b :: y => by
  unfold Op.bytesLess lessS
  by_cases h : a = b
  ·subst h
   have : (a.toNat < a.toNat) = False := by simp
   simp [less_is x y]
  ·simp [h, UInt8.lt_iff_toNat_lt]
theorem ba_list (x : List UInt8) : (⟨x.toArray⟩ : ByteArray).toList = x := by rw [ByteArray.toList_eq]
end Go.Tre
namespace Go.Proofs.YtaleodkbghogfaaGreatDoor.typ
open Go.RowKit Go.Maps Go.Tre lex
set_option maxHeartbeats 2000000 in
theorem indexStrs (a : Option Addr) (cap : Nat) (xs : List ByteArray) (s : ByteArray) (w : World) (hx : StrsAt w a xs) (hlen : xs.length ≤ 8388608) :
  Calls Tryz.prog 142 #[.slice a xs.length cap, .string s] w fun e w' => e = .returned (.int .i64 (idxFunc (fun x => decide (s = x)) xs)) ∧ w = w' := by
 go_enter Tryz.func142, Tryz.ntmps142
 go_wp2_with fail
 go_loop [8] (fun i => ∃ k : Nat, k ≤ xs.length ∧ i = .int .i64 k ∧ (∀ j (hj : j < xs.length), j < k → decide (s = xs[j]) = false)) (fun i => xs.length - (intOf i).toNat)
 case atStart => exact ⟨0, Nat.zero_le _, rfl, fun j _ h => by omega⟩
 case round =>
  obtain ⟨k, hk, rfl, hrel⟩ := hrel
  have HR := Tre.hid hrel
  clear hrel
  by_cases hlt : k < xs.length
  ·obtain ⟨b, off, rfl, hc⟩ := hx.at_ k (.string xs[k]) (by simp [List.getElem?_eq_getElem hlt])
   by_cases hp : s = xs[k]
   ·have HO := Tre.hid (idxFunc_hit (p := fun x => decide (s = x)) hlt (decide_eq_true hp) HR.out)
    have e1 : (s.toList == xs[k].toList) = true := by rw [← hp]; exact beq_self_eq_true _
    have e2 : (s.toList = xs[k].toList) = True := by rw [← hp]; simp
    clear hp
    go_wp2_with fail
    go_ret
    exact ⟨ret_int HO.out.symm, rfl⟩
   ·have hp' : decide (s = xs[k]) = false := decide_eq_false hp
    have HP := Tre.hid hp'
    have e2 : (s.toList = xs[k].toList) = False := by rw [eq_iff_iff, iff_false]; intro e; rw [ByteArray.toList_eq, ByteArray.toList_eq] at e; exact hp (data_inj' e)
    have e1 : (s.toList == xs[k].toList) = false := by rw [beq_eq_false_iff_ne, ne_eq, e2]; exact fun h => h
    clear hp hp'
    go_wp2_with fail
    go_round
    case rel =>
     refine ⟨k + 1, by omega, by go_num, fun j hj hjk => ?_⟩
     by_cases e : j = k
     ·subst e; exact HP.out
     ·exact HR.out j hj (by omega)
    case measure => simp [intOf]; omega
  ·have HO := Tre.hid (idxFunc_miss (p := fun x => decide (s = x)) (xs := xs) (fun j hj => HR.out j hj (by omega)))
   go_wp2_with fail
   go_ret
   exact ⟨ret_int HO.out.symm, rfl⟩
set_option maxHeartbeats 1000000 in
theorem containsStrs (a : Option Addr) (cap : Nat) (xs : List ByteArray) (s : ByteArray) (w : World) (hx : StrsAt w a xs) (hlen : xs.length ≤ 8388608) (r : Bool) (hr : (xs.any fun x => decide (s = x)) = r) :
  Calls Tryz.prog 122 #[.slice a xs.length cap, .string s] w fun e w' => e = .returned (.bool r) ∧ w = w' := by
 have HI := Tre.hid (indexStrs a cap xs s w hx hlen)
 have HA := Tre.hid ((idxFunc_any (fun x => decide (s = x)) xs).trans hr)
 clear hx hr
 go_enter Tryz.func122, Tryz.ntmps122
 go_wp2_with fail
 refine HI.out.mono ?_
 rintro e w' ⟨rfl, rfl⟩
 go_wp2_with fail
 go_ret
 exact ⟨ret_bool HA.out, rfl⟩
set_option maxHeartbeats 2000000 in
theorem binEmpty (c : Nat) (s : ByteArray) (w : World) :
  Calls Tryz.prog 143 #[.slice none 0 c, .string s] w fun e w' => e = .returned (.tuple #[.int .i64 0, .bool false]) ∧ Below w.heap.size w w' := by
 go_enter Tryz.func143, Tryz.ntmps143
 go_wp2_with fail
 go_loop [7, 8] (fun i j => i = .int .i64 0 ∧ j = .int .i64 0) (fun _ _ => 0)
 case atStart => exact ⟨rfl, rfl⟩
 case round =>
  obtain ⟨rfl, rfl⟩ := hrel
  go_wp2_with fail
  go_ret2
  exact ⟨rfl, Below.refl _ _⟩
theorem binEnd (w0 : World) (rs : List Res) (w : World) (al : Option Addr) (cl : Nat) (labels : List (List UInt8)) (s : List UInt8) (hM : Mem w0 w (rowR 9 1 (.slice al labels.length cl) labels.length (labels.map fun x => .string ⟨x.toArray⟩) :: rs)) (hn : labels.length ≤ 4194304) (hs : labels.all (lessS · s) = true) :
  Calls Tryz.prog 143 #[.slice al labels.length cl, .string ⟨s.toArray⟩] w fun e w' => e = .returned (.tuple #[.int .i64 (labels.length : Int), .bool false]) ∧ Below w.heap.size w w' := by
 rcases (hM.row 0 rfl).2 with ⟨e1, e2⟩ | ⟨g, cap, cur, e1, _, hg, _⟩
 ·have : labels = [] := List.eq_nil_of_length_eq_zero e2
  subst this
  cases e1
  exact binEmpty 0 _ w
 ·obtain ⟨rfl, rfl⟩ : al = some ⟨g, 0, none⟩ ∧ cl = cap := by injection e1; exact ⟨by assumption, by assumption⟩
  clear e1
  have hall : ∀ t, t < labels.length → Op.bytesLess ((⟨(labels.getD t []).toArray⟩ : ByteArray).toList) ((⟨s.toArray⟩ : ByteArray).toList) = true := fun t ht => by
   rw [ba_list, ba_list, less_is]
   rw [List.all_eq_true] at hs
   refine hs _ ?_
   rw [List.getD_eq_getElem?_getD, List.getElem?_eq_getElem ht]
   exact List.getElem_mem ht
  have hgo := bsGo_all _ _ hall labels.length 0 labels.length (Nat.zero_le _) (Nat.le_refl _) (by omega)
  refine (Tryz.slices_BinarySearch_string g 0 labels.length cl (fun t => ⟨(labels.getD t []).toArray⟩) ⟨s.toArray⟩ w (by omega) (fun j hj => ?_)).mono ?_
  ·rw [Nat.zero_add]
   refine hM.cellAt 0 rfl j ?_
   rw [List.getElem?_map, List.getElem?_eq_getElem hj, List.getD_eq_getElem?_getD, List.getElem?_eq_getElem hj]
   rfl
  ·rintro e w' ⟨rfl, n, rfl⟩
   refine ⟨?_, Go.below_drewN (Below.refl _ _) n⟩
   rw [hgo]
   simp
def noEnd (t : Tok) : Bool := decide (t.kind = 0)
set_option maxHeartbeats 2000000 in
theorem text1 (t : Tok) (w : World) : Calls Tryz.prog 71 #[.agg #[.int .i64 t.kind, .int .i64 t.at_, .int .i64 t.n, .string ⟨t.s.toArray⟩]] w fun e w' => e = .returned (.bool (noEnd t)) ∧ Below w.heap.size w w' := by
 have M := (Mem.nil w).allocR #[.int .i64 t.kind, .int .i64 t.at_, .int .i64 t.n, .string ⟨t.s.toArray⟩] 82
 have HM := Tre.hid M
 by_cases hk : t.kind = 0
 ·have e1 : ((t.kind : Int) == 0) = true := by rw [hk]; rfl
  have H : Hid (noEnd t = true) := decide_eq_true hk
  clear hk M
  go_enter Tryz.func71, Tryz.ntmps71
  go_wp2_with fail
  go_ret
  exact ⟨ret_bool H.out.symm, HM.out.below⟩
 ·have e1 : ((t.kind : Int) == 0) = false := beq_eq_false_iff_ne.2 (by omega)
  have H : Hid (noEnd t = false) := decide_eq_false hk
  clear hk M
  go_enter Tryz.func71, Tryz.ntmps71
  go_wp2_with fail
  go_ret
  exact ⟨ret_bool H.out.symm, HM.out.below⟩
theorem hcfT (args : Array Value) (w : World) : (callFunc 71 args).run Tryz.prog w = .ok (.enter 71 args) w := by kernel_rfl
set_option maxRecDepth 100000 in
set_option maxHeartbeats 2000000 in
theorem indexToks (ad : Option Addr) (cap : Nat) (l : List Tok) (w : World) (hl : ToksAt w ad l) (hlen : l.length ≤ 4194304) :
  Calls Tryz.prog 70 #[.slice ad l.length cap, .func (.func 71) #[] #[]] w fun e w' => e = .returned (.int .i64 (idxFunc noEnd l)) ∧ Below w.heap.size w w' := by
 have HT := Tre.hid text1
 have hcf := hcfT
 go_enter Tryz.func70, Tryz.ntmps70
 go_wp2_with fail
 go_loopw [8] (fun i wr => ∃ k : Nat, k ≤ l.length ∧ i = .int .i64 k ∧ (∀ j (hj : j < l.length), j < k → noEnd l[j] = false) ∧ Below w.heap.size w wr) (fun i _ => l.length - (intOf i).toNat)
 case atStart => exact ⟨0, Nat.zero_le _, rfl, fun j _ h => by omega, Below.refl _ _⟩
 case round =>
  obtain ⟨k, hk, rfl, hrel, hb⟩ := hrel
  have HR := Tre.hid hrel
  clear hrel
  by_cases hlt : k < l.length
  ·obtain ⟨b, off, rfl, a0, a1, a2, a3⟩ := (hl.below hb).tok (List.getElem?_eq_getElem hlt)
   by_cases hp : noEnd l[k] = true
   ·have HO := Tre.hid (idxFunc_hit hlt hp HR.out)
    generalize l[k] = q at *
    go_wp2_with fail
    refine (HT.out q _).mono ?_
    rintro e w' ⟨rfl, hb'⟩
    rw [hp]
    clear hp
    go_wp2_with fail
    go_ret
    exact ⟨ret_int HO.out.symm, hb.trans (hb'.mono hb.size)⟩
   ·have hp' : noEnd l[k] = false := by simpa using hp
    have HP := Tre.hid hp'
    have HR2 : Hid (∀ j (hj : j < l.length), j < k + 1 → noEnd l[j] = false) := fun j hj hjk => by
     by_cases e : j = k
     ·subst e; exact HP.out
     ·exact HR.out j hj (by omega)
    clear hp HR
    generalize l[k] = q at *
    go_wp2_with fail
    refine (HT.out q _).mono ?_
    rintro e w' ⟨rfl, hb'⟩
    rw [hp']
    clear hp'
    go_wp2_with fail
    go_roundw
    case rel => exact ⟨k + 1, by omega, by go_num, HR2.out, hb.trans (hb'.mono hb.size)⟩
    case measure => simp [intOf]; omega
  ·have HO := Tre.hid (idxFunc_miss (p := noEnd) (xs := l) (fun j hj => HR.out j hj (by omega)))
   go_wp2_with fail
   go_ret
   exact ⟨ret_int HO.out.symm, hb⟩
set_option maxHeartbeats 2000000 in
theorem text_yes (ad : Option Addr) (cap : Nat) (l : List Tok) (w : World) (hl : ToksAt w ad l) (hlen : l.length ≤ 4194304) (h0 : 0 < l.length) (hi : idxFunc noEnd l = ((l.length - 1 : Nat) : Int)) :
  Calls Tryz.prog 53 #[.slice ad l.length cap] w fun e w' => e = .returned (.bool true) ∧ Below w.heap.size w w' := by
 have HI := Tre.hid (indexToks ad cap l w hl hlen)
 rw [hi] at HI
 have e1 : (((l.length - 1 : Nat) : Int) == (l.length : Int) - 1) = true := by rw [beq_iff_eq]; omega
 have LEN := Tre.hid h0
 have e2 : (0 : Int) < (l.length : Int) := by omega
 clear hl hi h0
 go_enter Tryz.func53, Tryz.ntmps53
 go_wp2_with fail
 refine HI.out.mono ?_
 rintro e w' ⟨rfl, hb'⟩
 have e3 : decide ((0 : Int) < (l.length : Int)) = true := decide_eq_true e2
 go_wp2_with fail
 go_ret
 refine ⟨ret_bool (decide_eq_true ?_), hb'⟩
 exact LEN.out
end Go.Proofs.YtaleodkbghogfaaGreatDoor.typ
namespace Go.Tre
structure ReadsAs (s : List UInt8) (g : Tre.Graph) : Type where
 ts : List Tok
 k : Nat
 t : Ty
 j : Nat
 bd : ByteArray → Option Nat
 n : Nat
 a : Nat
 st : LSt
 lex : lexS s = some ts
 pos : 0 < ts.length
 few : ts.length ≤ 4194304
 text : idxFunc Go.Proofs.YtaleodkbghogfaaGreatDoor.typ.noEnd ts = ((ts.length - 1 : Nat) : Int)
 parse : pLev ts k 0 0 = some (t, j)
 last : (ts[j]?).map Tok.kind = some 0
 may : verdictI (walkT t) = 0
 small : t.weight ≤ 4194304
 smallT : SmallT (flat t 0)
 bind : bind1 (flat t 0) k 0 (fun _ => none, 0) = some (bd, n)
 nsmall : n ≤ 4194304
 follow : ∀ s x, bd s = some x → ∃ r, follow1 (flat t 0) bd (2 * n + 2) x = some r
 node : node1 (flat t 0) (bd, n) k 0 ⟨fun _ => none, fun _ => none, []⟩ = some (a, st)
 nlen : st.ns.length ≤ 1048576
 weight : Graph.weight ⟨st.ns, (a : Int)⟩ ≤ 2097152
 graph : (Tre.Graph.mk st.ns (a : Int)).trim = g
end Go.Tre
namespace Go.Tre
theorem smallT_of {T : List Ent} (h : (T.all fun e => decide (e.s.length ≤ 4194304) && (decide (e.args.length ≤ 4194304) && decide (e.labels.length ≤ 4194304))) = true) : SmallT T := by
 rw [List.all_eq_true] at h
 have key : ∀ (i : Nat) (e : Ent), T[i]? = some e → e.s.length ≤ 4194304 ∧ e.args.length ≤ 4194304 ∧ e.labels.length ≤ 4194304 := fun i e he => by
  have := h e (List.mem_of_getElem? he)
  simpa [Bool.and_eq_true] using this
 exact ⟨fun i e he => (key i e he).1, fun i e he => (key i e he).2.1, fun i e he => (key i e he).2.2⟩
def tyInt : Ty := .mk 2 [105, 110, 116] [] [] false
def tyA : Ty := .mk 4 [97] [.mk 2 [45, 62] [tyInt, .mk 2 [45, 62] [tyInt, .mk 1 [97] [] [] false] [] false] [] false] [] false
def tyB : Ty := .mk 4 [97] [.mk 2 [45, 62] [tyInt, .mk 1 [97] [] [] false] [] false] [] false
def bdA : ByteArray → Option Nat := upd (fun _ => none) ⟨[97].toArray⟩ 0
def stOf (t : Ty) : LSt := ((node1 (flat t 0) (bdA, 1) 40 0 ⟨fun _ => none, fun _ => none, []⟩).getD (0, ⟨fun _ => none, fun _ => none, []⟩)).2
def graphOf (t : Ty) : Tre.Graph := (Tre.Graph.mk (stOf t).ns ((0 : Nat) : Int)).trim
def toksA : List Tok := [⟨1, 0, 0, [105, 110, 116]⟩, ⟨6, 4, 0, [45, 62]⟩, ⟨1, 7, 0, [105, 110, 116]⟩, ⟨6, 11, 0, [45, 62]⟩, ⟨5, 14, 0, [97]⟩, ⟨2, 17, 0, [97, 115]⟩, ⟨5, 20, 0, [97]⟩, ⟨0, 22, 0, []⟩]
def toksB : List Tok := [⟨1, 0, 0, [105, 110, 116]⟩, ⟨6, 4, 0, [45, 62]⟩, ⟨5, 7, 0, [97]⟩, ⟨2, 10, 0, [97, 115]⟩, ⟨5, 13, 0, [97]⟩, ⟨0, 15, 0, []⟩]
theorem followA (T : List Ent) (h : follow1 T bdA 4 0 = some 1) : ∀ s x, bdA s = some x → ∃ r, follow1 T bdA (2 * 1 + 2) x = some r := by
 intro s x hs
 unfold bdA upd at hs
 split at hs
 ·cases hs; exact ⟨1, h⟩
 ·cases hs
def readsA : ReadsAs [105, 110, 116, 32, 45, 62, 32, 105, 110, 116, 32, 45, 62, 32, 39, 97, 32, 97, 115, 32, 39, 97] (graphOf tyA) where
 ts := toksA
 k := 40
 t := tyA
 j := 7
 bd := bdA
 n := 1
 a := 0
 st := stOf tyA
 lex := lexS_of (by decide) (by decide)
 pos := by decide
 few := by decide
 text := by decide
 parse := by rfl
 last := by rfl
 may := by decide +kernel
 small := by decide +kernel
 smallT := smallT_of (by decide +kernel)
 bind := by rfl
 nsmall := by decide
 follow := followA _ (by rfl)
 node := by rfl
 nlen := by decide +kernel
 weight := by decide +kernel
 graph := rfl
def readsB : ReadsAs [105, 110, 116, 32, 45, 62, 32, 39, 97, 32, 97, 115, 32, 39, 97] (graphOf tyB) where
 ts := toksB
 k := 40
 t := tyB
 j := 5
 bd := bdA
 n := 1
 a := 0
 st := stOf tyB
 lex := lexS_of (by decide) (by decide)
 pos := by decide
 few := by decide
 text := by decide
 parse := by rfl
 last := by rfl
 may := by decide +kernel
 small := by decide +kernel
 smallT := smallT_of (by decide +kernel)
 bind := by rfl
 nsmall := by decide
 follow := followA _ (by rfl)
 node := by rfl
 nlen := by decide +kernel
 weight := by decide +kernel
 graph := rfl
end Go.Tre
namespace Go.Tre
inductive Rch (g : Tre.Graph) (a : Nat) : Nat → Prop where
 | refl : Rch g a a
 | step {b c : Nat} : Rch g a b → c ∈ g.kids b → Rch g a c
theorem Rch.trans {g : Tre.Graph} {a b c : Nat} (h : Rch g a b) (k : Rch g b c) : Rch g a c := by
 induction k with
 | refl => exact h
 | step _ hc ih => exact ih.step hc
theorem Rch.head {g : Tre.Graph} {a b c : Nat} (h : b ∈ g.kids a) (k : Rch g b c) : Rch g a c := (Rch.refl.step h).trans k
theorem Rch.lt {g : Tre.Graph} (og : g.Ok) {a b : Nat} (h : Rch g a b) (ha : a < g.ns.length) : b < g.ns.length := by
 induction h with
 | refl => exact ha
 | step _ hc ih => exact og.kids_lt ih _ hc
theorem Graph.dfs_within {g : Tre.Graph} (og : g.Ok) (C : Nat → Prop) (hC : ∀ a, C a → ∀ b ∈ g.kids a, C b) : ∀ (k : Nat) (s out : List Nat), g.budget out + s.length ≤ k → (∀ a ∈ s, a < g.ns.length) → (∀ a ∈ s, C a) → (∀ a ∈ out, C a) → ∀ a ∈ g.dfs s out, C a := by
 intro k
 induction k with
 | zero =>
  intro s out hk _ _ h3
  have : s = [] := List.length_eq_zero_iff.1 (by omega)
  subst this
  rw [g.dfs_nil]; exact h3
 | succ k ih =>
  intro s out hk h1 h2 h3
  cases s with
  | nil => rw [g.dfs_nil]; exact h3
  | cons a s =>
   have hal := h1 a (by simp)
   by_cases hm : a ∈ out
   ·rw [Graph.dfs_skip hm]; exact ih s out (by simp at hk; omega) (fun b hb => h1 b (by simp [hb])) (fun b hb => h2 b (by simp [hb])) h3
   ·rw [Graph.dfs_take hm hal]
    have hb := Graph.budget_step hal hm
    refine ih (g.kids a ++ s) (out ++ [a]) (by simp only [List.length_append, List.length_cons, g.kids_len] at hk ⊢; omega) (fun b hb => ?_) (fun b hb => ?_) (fun b hb => ?_)
    ·rcases List.mem_append.1 hb with hb | hb
     ·exact og.kids_lt hal b hb
     ·exact h1 b (by simp [hb])
    ·rcases List.mem_append.1 hb with hb | hb
     ·exact hC a (h2 a (by simp)) b hb
     ·exact h2 b (by simp [hb])
    ·rcases List.mem_append.1 hb with hb | hb
     ·exact h3 b hb
     ·simp at hb; rw [hb]; exact h2 a (by simp)
theorem Graph.mem_dfs {g : Tre.Graph} (og : g.Ok) {l : List Nat} (hl : ∀ a ∈ l, a < g.ns.length) {a : Nat} : a ∈ g.dfs l [] ↔ ∃ m ∈ l, Rch g m a := by
 constructor
 ·intro h
  exact Graph.dfs_within og (fun a => ∃ m ∈ l, Rch g m a) (fun a ⟨m, hm, r⟩ b hb => ⟨m, hm, r.step hb⟩) _ l [] (Nat.le_refl _) hl (fun a ha => ⟨a, ha, .refl⟩) (by simp) a h
 ·rintro ⟨m, hm, r⟩
  obtain ⟨_, _, r3, _, r5⟩ := g.dfs_spec og _ l [] (Nat.le_refl _) (by simp) (by simp) hl (by simp)
  induction r with
  | refl => exact r5 m hm
  | step _ hc ih => exact r3 _ ih _ hc
theorem Graph.mem_reach {g : Tre.Graph} (h : g.checkC = 0) {a : Nat} : a ∈ g.reachL ↔ Rch g g.root.toNat a := by
 have og := Graph.ok_of h
 unfold Graph.reachL
 rw [if_pos h, Graph.mem_dfs og (fun a ha => by simp at ha; rw [ha]; exact og.root1)]
 simp
def Graph.markB (g : Tre.Graph) (l : List Nat) (i : Nat) : Bool := decide (i ∈ g.dfs l [])
def Graph.fixedL (g : Tre.Graph) (mono : List Nat) : List Nat := (List.range g.ns.length).filter fun i => freeB (g.nd i) && g.markB mono i
def Graph.genericL (g : Tre.Graph) (mono : List Nat) : List Nat := (List.range g.ns.length).filter fun i => freeB (g.nd i) && (!g.markB mono i && g.markB [g.root.toNat] i)
def Graph.leadB (g : Tre.Graph) (gen : List Nat) (i : Nat) : Bool := gen.any fun k => decide (k ∈ g.dfs [i] [])
def Graph.copiesL (g : Tre.Graph) (mono : List Nat) : List Nat := g.reachL.filter (g.leadB (g.genericL mono))
def nowF (n : Nat) (C : List Nat) (x : Nat) : Nat := if x ∈ C then n + C.idxOf x else x
def copyN (n : Nat) (C : List Nat) (x : Tre.Node) : Tre.Node := { x with args := x.args.map fun a => ((nowF n C a.toNat : Nat) : Int) }
def Graph.freshG (g : Tre.Graph) (mono : List Nat) : Tre.Graph := ⟨g.ns ++ (g.copiesL mono).map fun i => copyN g.ns.length (g.copiesL mono) (g.nd i), ((nowF g.ns.length (g.copiesL mono) g.root.toNat : Nat) : Int)⟩
section
variable {g : Tre.Graph} {mono : List Nat}
theorem Graph.markB_iff (og : g.Ok) {l : List Nat} (hl : ∀ a ∈ l, a < g.ns.length) {i : Nat} : g.markB l i = true ↔ ∃ m ∈ l, Rch g m i := by
 unfold Graph.markB; rw [decide_eq_true_eq]; exact Graph.mem_dfs og hl
theorem Graph.mem_fixed (og : g.Ok) (hl : ∀ a ∈ mono, a < g.ns.length) {i : Nat} : i ∈ g.fixedL mono ↔ i < g.ns.length ∧ freeB (g.nd i) = true ∧ ∃ m ∈ mono, Rch g m i := by
 unfold Graph.fixedL
 rw [List.mem_filter, List.mem_range, Bool.and_eq_true, Graph.markB_iff og hl]
theorem Graph.mem_generic (og : g.Ok) (hl : ∀ a ∈ mono, a < g.ns.length) {i : Nat} : i ∈ g.genericL mono ↔ freeB (g.nd i) = true ∧ (¬ ∃ m ∈ mono, Rch g m i) ∧ Rch g g.root.toNat i := by
 unfold Graph.genericL
 have h1 := Graph.markB_iff og hl (i := i)
 have h2 := Graph.markB_iff og (l := [g.root.toNat]) (fun a ha => by simp at ha; rw [ha]; exact og.root1) (i := i)
 rw [List.mem_filter, List.mem_range, Bool.and_eq_true, Bool.and_eq_true, Bool.not_eq_true', ← Bool.not_eq_true, h1, h2]
 simp only [List.mem_singleton, exists_eq_left]
 exact ⟨fun h => h.2, fun h => ⟨h.2.2.lt og og.root1, h⟩⟩
theorem Graph.leadB_iff (og : g.Ok) {gen : List Nat} {i : Nat} (hi : i < g.ns.length) : g.leadB gen i = true ↔ ∃ k ∈ gen, Rch g i k := by
 unfold Graph.leadB
 rw [List.any_eq_true]
 constructor
 ·rintro ⟨k, hk, h⟩
  rw [decide_eq_true_eq, Graph.mem_dfs og (fun a ha => by simp at ha; rw [ha]; exact hi)] at h
  obtain ⟨m, hm, r⟩ := h
  simp at hm; subst hm
  exact ⟨k, hk, r⟩
 ·rintro ⟨k, hk, r⟩
  refine ⟨k, hk, ?_⟩
  rw [decide_eq_true_eq, Graph.mem_dfs og (fun a ha => by simp at ha; rw [ha]; exact hi)]
  exact ⟨i, by simp, r⟩
theorem Graph.mem_copies (h : g.checkC = 0) (hl : ∀ a ∈ mono, a < g.ns.length) {i : Nat} : i ∈ g.copiesL mono ↔ Rch g g.root.toNat i ∧ ∃ k, Rch g i k ∧ freeB (g.nd k) = true ∧ ¬ ∃ m ∈ mono, Rch g m k := by
 have og := Graph.ok_of h
 unfold Graph.copiesL
 rw [List.mem_filter, Graph.mem_reach h]
 constructor
 ·rintro ⟨h1, h2⟩
  rw [Graph.leadB_iff og (h1.lt og og.root1)] at h2
  obtain ⟨k, hk, r⟩ := h2
  have h3 := (Graph.mem_generic og hl).1 hk
  exact ⟨h1, k, r, h3.1, h3.2.1⟩
 ·rintro ⟨h1, k, r, h3, h4⟩
  refine ⟨h1, ?_⟩
  rw [Graph.leadB_iff og (h1.lt og og.root1)]
  exact ⟨k, (Graph.mem_generic og hl).2 ⟨h3, h4, h1.trans r⟩, r⟩
theorem Graph.copies_nodup : (g.copiesL mono).Nodup := List.Nodup.sublist (List.filter_sublist) g.reach_nodup
theorem Graph.copies_lt {i : Nat} (h : i ∈ g.copiesL mono) : i < g.ns.length := g.reach_lt i (List.mem_filter.1 h).1
theorem nowF_lt {n m : Nat} {C : List Nat} {x : Nat} (hx : x < n) (hm : n + C.length ≤ m) : nowF n C x < m := by
 unfold nowF
 split
 ·rename_i h
  have := List.idxOf_lt_length_of_mem h
  omega
 ·omega
theorem nowF_inj {n : Nat} {C : List Nat} {x y : Nat} (hx : x < n) (hy : y < n) (h : nowF n C x = nowF n C y) : x = y := by
 unfold nowF at h
 by_cases h1 : x ∈ C
 ·by_cases h2 : y ∈ C
  ·rw [if_pos h1, if_pos h2] at h
   have e : C.idxOf x = C.idxOf y := by omega
   have h3 := List.getElem_idxOf (List.idxOf_lt_length_of_mem h1)
   have h4 := List.getElem_idxOf (List.idxOf_lt_length_of_mem h2)
   rw [← h3, ← h4]
   simp only [e]
  ·rw [if_pos h1, if_neg h2] at h; omega
 ·by_cases h2 : y ∈ C
  ·rw [if_neg h1, if_pos h2] at h; omega
  ·rw [if_neg h1, if_neg h2] at h; exact h
theorem Graph.fresh_len : (g.freshG mono).ns.length = g.ns.length + (g.copiesL mono).length := by simp [Graph.freshG]
theorem Graph.fresh_old {i : Nat} (hi : i < g.ns.length) : (g.freshG mono).nd i = g.nd i := by
 rw [Graph.nd_eq (by rw [Graph.fresh_len]; omega), Graph.nd_eq hi]
 exact List.getElem_append_left hi
theorem Graph.fresh_new {i : Nat} (hi : i ∈ g.copiesL mono) : (g.freshG mono).nd (nowF g.ns.length (g.copiesL mono) i) = copyN g.ns.length (g.copiesL mono) (g.nd i) := by
 have hk := List.idxOf_lt_length_of_mem hi
 have e : nowF g.ns.length (g.copiesL mono) i = g.ns.length + (g.copiesL mono).idxOf i := by unfold nowF; rw [if_pos hi]
 rw [e, Graph.nd_eq (by rw [Graph.fresh_len]; omega)]
 unfold Graph.freshG
 simp only
 rw [List.getElem_append_right (by omega)]
 simp only [List.getElem_map, Nat.add_sub_cancel_left]
 rw [List.getElem_idxOf hk]
theorem Graph.now_nd (og : g.Ok) (h : g.checkC = 0) (hl : ∀ a ∈ mono, a < g.ns.length) {x : Nat} (hx : Rch g g.root.toNat x) :
  (g.freshG mono).nd (nowF g.ns.length (g.copiesL mono) x) = copyN g.ns.length (g.copiesL mono) (g.nd x) := by
 by_cases hc : x ∈ g.copiesL mono
 ·exact Graph.fresh_new hc
 ·have hxl := hx.lt og og.root1
  have e : nowF g.ns.length (g.copiesL mono) x = x := by unfold nowF; rw [if_neg hc]
  rw [e, Graph.fresh_old hxl]
  have ea : (g.nd x).args = (g.nd x).args.map fun a => ((nowF g.ns.length (g.copiesL mono) a.toNat : Nat) : Int) := by
   rw [og.kids_eq hxl, List.map_map]
   refine List.map_congr_left (fun y hy => ?_)
   have hyn : y ∉ g.copiesL mono := fun hy' => hc (by
    rw [Graph.mem_copies h hl] at hy' ⊢
    obtain ⟨_, k, r, r2⟩ := hy'
    exact ⟨hx, k, r.head hy, r2⟩)
   simp only [Function.comp, Int.toNat_natCast]
   unfold nowF
   rw [if_neg hyn]
  unfold copyN
  rw [← ea]
theorem copyN_kids (n : Nat) (C : List Nat) (x : Tre.Node) : (copyN n C x).args.map Int.toNat = (x.args.map Int.toNat).map (nowF n C) := by
 unfold copyN
 rw [List.map_map, List.map_map]
 rfl
theorem Graph.now_kids (og : g.Ok) (h : g.checkC = 0) (hl : ∀ a ∈ mono, a < g.ns.length) {x : Nat} (hx : Rch g g.root.toNat x) :
  (g.freshG mono).kids (nowF g.ns.length (g.copiesL mono) x) = (g.kids x).map (nowF g.ns.length (g.copiesL mono)) := by
 unfold Graph.kids
 rw [Graph.now_nd og h hl hx, copyN_kids]
theorem Graph.old_kids {i : Nat} (hi : i < g.ns.length) : (g.freshG mono).kids i = g.kids i := by unfold Graph.kids; rw [Graph.fresh_old hi]
theorem freeB_copy (n : Nat) (C : List Nat) (x : Tre.Node) : freeB (copyN n C x) = freeB x := rfl
theorem Graph.fresh_check (h : g.checkC = 0) (hs : g.ns.length + (g.copiesL mono).length ≤ 1048576) : (g.freshG mono).checkC = 0 := by
 have og := Graph.ok_of h
 refine check_mk (by rw [Graph.fresh_len]; exact hs) (by show (0 : Int) ≤ ((_ : Nat) : Int); omega) (by rw [Graph.fresh_len]; show ((_ : Nat) : Int) < _; have := nowF_lt (C := g.copiesL mono) og.root1 (Nat.le_refl _); omega) (fun n hn => ?_)
 rw [Graph.fresh_len]
 unfold Graph.freshG at hn
 rcases List.mem_append.1 hn with hn | hn
 ·exact mayB_mono (by omega) (og.mays n hn)
 ·obtain ⟨i, hi, rfl⟩ := List.mem_map.1 hn
  have hil := Graph.copies_lt hi
  have hm := og.may i hil
  unfold mayB at hm ⊢
  have e : (copyN g.ns.length (g.copiesL mono) (g.nd i)).args.length = (g.nd i).args.length := by simp [copyN]
  rw [show (copyN g.ns.length (g.copiesL mono) (g.nd i)).kind = (g.nd i).kind from rfl, show (copyN g.ns.length (g.copiesL mono) (g.nd i)).name = (g.nd i).name from rfl, show (copyN g.ns.length (g.copiesL mono) (g.nd i)).labels = (g.nd i).labels from rfl, show (copyN g.ns.length (g.copiesL mono) (g.nd i)).isOpen = (g.nd i).isOpen from rfl, e]
  rw [Bool.and_eq_true] at hm ⊢
  refine ⟨?_, hm.2⟩
  cases hy : (copyN g.ns.length (g.copiesL mono) (g.nd i)).args.any (outside (g.ns.length + (g.copiesL mono).length))
  ·rfl
  ·obtain ⟨z, hz, hzz⟩ := List.any_eq_true.1 hy
   have hz' : z ∈ (g.nd i).args.map fun a => ((nowF g.ns.length (g.copiesL mono) a.toNat : Nat) : Int) := hz
   rw [og.kids_eq hil, List.map_map] at hz'
   obtain ⟨y, hy', rfl⟩ := List.mem_map.1 hz'
   have hyl := og.kids_lt hil y hy'
   have := nowF_lt (C := g.copiesL mono) hyl (Nat.le_refl _)
   unfold outside at hzz
   simp only [Function.comp, Int.toNat_natCast, Bool.or_eq_true, decide_eq_true_eq] at hzz
   omega
theorem Graph.fresh_root : (g.freshG mono).root.toNat = nowF g.ns.length (g.copiesL mono) g.root.toNat := by show ((_ : Nat) : Int).toNat = _; simp
theorem Graph.fresh_reach (h : g.checkC = 0) (hl : ∀ a ∈ mono, a < g.ns.length) {z : Nat} : Rch (g.freshG mono) (g.freshG mono).root.toNat z ↔ ∃ x, Rch g g.root.toNat x ∧ z = nowF g.ns.length (g.copiesL mono) x := by
 have og := Graph.ok_of h
 rw [Graph.fresh_root]
 constructor
 ·intro r
  induction r with
  | refl => exact ⟨_, .refl, rfl⟩
  | step _ hc ih =>
   obtain ⟨x, hx, rfl⟩ := ih
   rw [Graph.now_kids og h hl hx] at hc
   obtain ⟨y, hy, rfl⟩ := List.mem_map.1 hc
   exact ⟨y, hx.step hy, rfl⟩
 ·rintro ⟨x, hx, rfl⟩
  induction hx with
  | refl => exact .refl
  | step hb hc ih => exact ih.step (by rw [Graph.now_kids og h hl hb]; exact List.mem_map.2 ⟨_, hc, rfl⟩)
end
end Go.Tre
