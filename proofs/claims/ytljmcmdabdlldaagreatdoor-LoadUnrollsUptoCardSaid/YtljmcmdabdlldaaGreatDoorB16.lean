/- Types in the memory: a value of five cells, its parts and labels in blocks of a set O; parts apart from each other. slices.Index, Contains over strings; slices.IndexFunc over tokens; typ.text; slices.BinarySearch where all stand ahead. tree.rising, tree.word. -/
import Derived.Test.YtljmcmdabdlldaaGreatDoorB00
import Derived.Test.YtljmcmdabdlldaaGreatDoorB05
import Derived.Test.YtljmcmdabdlldaaGreatDoorB01
import Derived.Test.YtljmcmdabdlldaaGreatDoorB15
set_option linter.unusedVariables false
namespace Go.Tre
open Go.RowKit
inductive TyIn (w : World) : (Nat → Prop) → Ty → Value → Prop
 | mk {O : Nat → Prop} {k : Nat} {s : List UInt8} {args : List Ty} {labels : List (List UInt8)} {o : Bool} {aa : Option Addr} {ca : Nat} {al : Option Addr} {cl : Nat} (V : Nat → Array Value) (OO : Nat → Nat → Prop)
   (hc : args.length ≤ ca) (hl : labels.length ≤ cl)
   (hlab : ∀ (i : Nat) (x : List UInt8), labels[i]? = some x → ∃ b off, al = some ⟨b, off, none⟩ ∧ O b ∧ w.cell? ⟨b, off + i, none⟩ = some (.string ⟨x.toArray⟩))
   (hcell : ∀ i : Nat, i < args.length → ∃ b off, aa = some ⟨b, off, none⟩ ∧ O b ∧ (∃ cs T, w.heap[b]? = some (.cells cs T (0, 0))) ∧ (∀ j, ¬ OO j b) ∧ (V i).size = 5 ∧ ∀ (j : Nat) (u : Value), (V i)[j]? = some u → w.cell? ⟨b, off + i * 5 + j, none⟩ = some u)
   (hsub : ∀ i b, OO i b → O b) (hdis : ∀ i j b, OO i b → OO j b → i = j)
   (hargs : ∀ (i : Nat) (t : Ty), args[i]? = some t → TyIn w (OO i) t (.agg (V i))) :
   TyIn w O (.mk k s args labels o) (.agg #[.int .i64 k, .string ⟨s.toArray⟩, .slice aa args.length ca, .slice al labels.length cl, .bool o])
theorem cell_heap {w w' : World} {b j : Nat} {u : Value} (h : w'.heap[b]? = w.heap[b]?) (hc : w.cell? ⟨b, j, none⟩ = some u) : w'.cell? ⟨b, j, none⟩ = some u := by
 rw [World.cell?_of_block (a := ⟨b, j, none⟩) h]; exact hc
theorem TyIn.keep {O : Nat → Prop} {w w' : World} {t : Ty} {v : Value} (h : TyIn w O t v) (hw : ∀ b, O b → w'.heap[b]? = w.heap[b]?) : TyIn w' O t v := by
 induction h with
 | mk V OO hc hl hlab hcell hsub hdis hargs ih =>
  refine .mk V OO hc hl (fun i x hx => ?_) (fun i hi => ?_) hsub hdis (fun i t ht => ih i t ht (fun b hb => hw b (hsub i b hb)))
  ·obtain ⟨b, off, e, ho, hcc⟩ := hlab i x hx
   exact ⟨b, off, e, ho, cell_heap (hw b ho) hcc⟩
  ·obtain ⟨b, off, e, ho, ⟨cs, T, hp⟩, hn, hs, hcc⟩ := hcell i hi
   exact ⟨b, off, e, ho, ⟨cs, T, (hw b ho).trans hp⟩, hn, hs, fun j u hu => cell_heap (hw b ho) (hcc j u hu)⟩
theorem TyIn.wide {O O' : Nat → Prop} {w : World} {t : Ty} {v : Value} (h : TyIn w O t v) (hO : ∀ b, O b → O' b) : TyIn w O' t v := by
 cases h with
 | mk V OO hc hl hlab hcell hsub hdis hargs =>
  refine .mk V OO hc hl (fun i x hx => ?_) (fun i hi => ?_) (fun i b hb => hO b (hsub i b hb)) hdis hargs
  ·obtain ⟨b, off, e, ho, hcc⟩ := hlab i x hx
   exact ⟨b, off, e, hO b ho, hcc⟩
  ·obtain ⟨b, off, e, ho, hr⟩ := hcell i hi
   exact ⟨b, off, e, hO b ho, hr⟩
theorem TyIn.agg {w : World} {O : Nat → Prop} {t : Ty} {v : Value} (h : TyIn w O t v) : ∃ aa ca al cl, v = .agg #[.int .i64 t.kind, .string ⟨t.s.toArray⟩, .slice aa t.args.length ca, .slice al t.labels.length cl, .bool t.opn] ∧ t.args.length ≤ ca ∧ t.labels.length ≤ cl := by
 cases h with
 | mk V OO hc hl => exact ⟨_, _, _, _, rfl, hc, hl⟩
def tyR (O : Nat → Prop) (t : Ty) (v : Value) : Res where
 own b := O b
 P w := TyIn w O t v ∧ ∀ b, O b → b < w.heap.size
 stable w w' h hs := ⟨h.1.keep hs, fun b hb => by
  have h1 := h.2 b hb
  have h2 := hs b hb
  rw [Array.getElem?_eq_getElem h1] at h2
  exact (Array.getElem?_eq_some_iff.1 h2).1⟩
 has w h b hb := h.2 b hb
theorem Mem.fold {w0 w : World} {ls rs : List Res} {r : Res} (h : Mem w0 w (ls ++ rs)) (hP : r.P w) (hb : ∀ b, r.own b → ∃ a ∈ ls, a.own b) : Mem w0 w (r :: rs) := by
 have hp := List.pairwise_append.1 h.sep
 refine ⟨h.below, fun x hx => ?_, List.pairwise_cons.2 ⟨fun s hs b hr hsb => ?_, hp.2.1⟩⟩
 ·rcases List.mem_cons.1 hx with rfl | hx
  ·refine ⟨hP, fun b hr => ?_⟩
   obtain ⟨a, ha, hab⟩ := hb b hr
   exact (h.all a (List.mem_append.2 (.inl ha))).2 b hab
  ·exact h.all x (List.mem_append.2 (.inr hx))
 ·obtain ⟨a, ha, hab⟩ := hb b hr
  exact hp.2.2 a ha s hs b hab hsb
structure Kid where
 t : Ty
 V : Array Value
 O : Nat → Prop
abbrev kidR (k : Kid) : Res := tyR k.O k.t (.agg k.V)
def kidCells (l : List Kid) : List Value := l.flatMap fun k => k.V.toList
theorem five_at : ∀ {l : List Kid} (i j : Nat) (k : Kid) (u : Value), (∀ k ∈ l, k.V.size = 5) → l[i]? = some k → k.V[j]? = some u → (kidCells l)[i * 5 + j]? = some u := by
 intro l
 induction l with
 | nil => intro i j k u _ h; simp at h
 | cons x r ih =>
  intro i j k u h5 h hu
  have h0 := h5 x (by simp)
  unfold kidCells
  rw [List.flatMap_cons]
  cases i with
  | zero =>
   simp at h
   subst h
   have hj := (Array.getElem?_eq_some_iff.1 hu).1
   rw [Nat.zero_mul, Nat.zero_add, List.getElem?_append_left (by rw [Array.length_toList]; exact hj), Array.getElem?_toList, hu]
  | succ i =>
   simp at h
   rw [List.getElem?_append_right (by rw [Array.length_toList]; omega), Array.length_toList, h0, show (i + 1) * 5 + j - 5 = i * 5 + j by omega]
   exact ih i j k u (fun y hy => h5 y (by simp [hy])) h hu
theorem TyIn.five {w : World} {O : Nat → Prop} {t : Ty} {V : Array Value} (h : TyIn w O t (.agg V)) : V.size = 5 := by
 obtain ⟨aa, ca, al, cl, e, _⟩ := h.agg
 cases e; rfl
def mkO (va vl : Value) (l : List Kid) (b : Nat) : Prop := va.ownBlock = some b ∨ vl.ownBlock = some b ∨ ∃ k ∈ l, k.O b
theorem Mem.tyMake {w0 w : World} {rs : List Res} {T S : TypeId} {aa al : Option Addr} {ca cl n m : Nat} {kids : List Kid} {cs : List Value} {labels : List (List UInt8)} (k : Nat) (s : List UInt8) (o : Bool)
  (h : Mem w0 w (rowR T 5 (.slice aa n ca) n cs :: rowR S 1 (.slice al m cl) m (labels.map fun x => .string ⟨x.toArray⟩) :: (kids.map kidR ++ rs))) (hn : n = kids.length) (hm : m = labels.length) (hcs : cs = kidCells kids) :
  Mem w0 w (tyR (mkO (.slice aa n ca) (.slice al m cl) kids) (.mk k s (kids.map Kid.t) labels o) (.agg #[.int .i64 k, .string ⟨s.toArray⟩, .slice aa n ca, .slice al m cl, .bool o]) :: rs) := by
 subst hn hm hcs
 have h' : Mem w0 w ((rowR T 5 (.slice aa kids.length ca) kids.length (kidCells kids) :: rowR S 1 (.slice al labels.length cl) labels.length (labels.map fun x => .string ⟨x.toArray⟩) :: kids.map kidR) ++ rs) := h
 have hk : ∀ x ∈ kids, (kidR x).P w := fun x hx => (h'.all _ (by simp; exact .inr (.inr (.inl ⟨x, hx, rfl⟩)))).1
 have h5 : ∀ x ∈ kids, x.V.size = 5 := fun x hx => (hk x hx).1.five
 have hra := h'.at_ 0 rfl
 have hrl := h'.at_ 1 rfl
 have hsep := (List.pairwise_append.1 h'.sep).1
 have hsep1 := List.pairwise_cons.1 hsep
 have hsep2 := List.pairwise_cons.1 hsep1.2
 obtain ⟨ra, rca, ea, hca⟩ := h'.val 0 rfl
 cases ea
 obtain ⟨rl, rcl, el, hcl⟩ := h'.val 1 rfl
 cases el
 have hpw : ∀ (i j : Nat) (x y : Kid), kids[i]? = some x → kids[j]? = some y → i ≠ j → ∀ b, x.O b → ¬ y.O b := by
  intro i j x y hx hy hne b hb hb'
  have hp := List.pairwise_map.1 hsep2.2
  rw [List.pairwise_iff_getElem] at hp
  obtain ⟨hi, rfl⟩ := List.getElem?_eq_some_iff.1 hx
  obtain ⟨hj, rfl⟩ := List.getElem?_eq_some_iff.1 hy
  rcases Nat.lt_or_gt_of_ne hne with h1 | h1
  ·exact hp i j hi hj h1 b hb hb'
  ·exact hp j i hj hi h1 b hb' hb
 refine h'.fold (r := tyR _ _ _) ⟨?_, ?_⟩ ?_
 ·have key : TyIn w (mkO (.slice aa kids.length ca) (.slice al labels.length cl) kids) (.mk k s (kids.map Kid.t) labels o) (.agg #[.int .i64 k, .string ⟨s.toArray⟩, .slice aa (kids.map Kid.t).length ca, .slice al labels.length cl, .bool o]) := by
   refine .mk (fun i => (kids[i]?.map Kid.V).getD #[]) (fun i b => ∃ x, kids[i]? = some x ∧ x.O b) (by simpa using hca) hcl (fun i x hx => ?_) (fun i hi => ?_) (fun i b hb => ?_) (fun i j b hb hb' => ?_) (fun i t ht => ?_)
   ·have hx' : (labels.map fun x => Value.string ⟨x.toArray⟩)[i]? = some (.string ⟨x.toArray⟩) := by rw [List.getElem?_map, hx]; rfl
    obtain ⟨g, rfl, _, _, hc⟩ := h'.getRow 1 rfl i hx'
    exact ⟨g, 0, rfl, .inr (.inl rfl), by rw [Nat.zero_add]; exact hc⟩
   ·have hi' : i < kids.length := by simpa using hi
    have hki : kids[i]? = some kids[i] := List.getElem?_eq_getElem hi'
    have h5i := h5 _ (List.getElem_mem hi')
    have hfirst : (kidCells kids)[i * 5 + 0]? = some (kids[i].V[0]'(by omega)) := five_at i 0 kids[i] _ h5 hki (Array.getElem?_eq_getElem (by omega))
    obtain ⟨g, rfl, _, _, _⟩ := h'.getRow 0 rfl _ hfirst
    have hpl : ∃ cs T, w.heap[g]? = some (.cells cs T (0, 0)) := by
     rcases (h'.row 0 rfl).2 with ⟨e1, _⟩ | ⟨g', cap, cur, e1, _, hg, _⟩
     ·cases e1
     ·cases e1; exact ⟨_, _, hg⟩
    refine ⟨g, 0, rfl, .inl rfl, hpl, fun j ⟨x, hx, hxo⟩ => ?_, by rw [hki]; exact h5i, fun j u hu => ?_⟩
    ·exact hsep1.1 (kidR x) (by simp; exact .inr ⟨x, List.mem_of_getElem? hx, rfl⟩) g rfl hxo
    ·rw [hki] at hu
     rw [Nat.zero_add]
     exact h'.cellAt 0 rfl _ (five_at i j kids[i] u h5 hki hu)
   ·obtain ⟨x, hx, hxo⟩ := hb
    exact .inr (.inr ⟨x, List.mem_of_getElem? hx, hxo⟩)
   ·obtain ⟨x, hx, hxo⟩ := hb
    obtain ⟨y, hy, hyo⟩ := hb'
    refine Classical.byContradiction fun hne => ?_
    exact hpw i j x y hx hy hne b hxo hyo
   ·rw [List.getElem?_map] at ht
    obtain ⟨x, hx, rfl⟩ := Option.map_eq_some_iff.1 ht
    simp only [hx, zqd, Option.getD_some]
    refine (hk x (List.mem_of_getElem? hx)).1.wide (fun b hb => ⟨x, rfl, hb⟩)
  rw [List.length_map] at key
  exact key
 ·rintro b (hb | hb | ⟨x, hx, hb⟩)
  ·exact (rowR T 5 (.slice aa kids.length ca) kids.length (kidCells kids)).has w hra b hb
  ·exact (rowR S 1 (.slice al labels.length cl) labels.length _).has w hrl b hb
  ·exact (kidR x).has w (hk x hx) b hb
 ·rintro b (hb | hb | ⟨x, hx, hb⟩)
  ·exact ⟨_, List.mem_cons_self .., hb⟩
  ·exact ⟨_, List.mem_cons_of_mem _ (List.mem_cons_self ..), hb⟩
  ·exact ⟨kidR x, by simp; exact .inr (.inr ⟨x, hx, rfl⟩), hb⟩
end Go.Tre
namespace Go.Tre
theorem bsGo_all (less : Nat → Bool) (n : Nat) (h : ∀ t, t < n → less t = true) : ∀ (f lo hi : Nat), lo ≤ hi → hi ≤ n → hi - lo ≤ f → Lib.bsGo less f lo hi = hi
 | 0, lo, hi, h1, _, h2 => by simp [Lib.bsGo]; omega
 | f + 1, lo, hi, h1, h3, h2 => by
  unfold Lib.bsGo
  split
  ·rw [h _ (by omega), if_pos rfl]
   exact bsGo_all less n h f _ hi (by omega) h3 (by omega)
  ·omega
theorem less_is : ∀ (x y : List UInt8), Op.bytesLess x y = lessS x y
 | [], [] => rfl
 | [], _ :: _ => rfl
 | _ :: _, [] => rfl
 | a :: x, b :: y => by
  unfold Op.bytesLess lessS
  by_cases h : a = b
  ·subst h
   have : (a.toNat < a.toNat) = False := by simp
   simp [less_is x y]
  ·simp [h, UInt8.lt_iff_toNat_lt]
theorem ba_list (x : List UInt8) : (⟨x.toArray⟩ : ByteArray).toList = x := by rw [ByteArray.toList_eq]
end Go.Tre
namespace Go.Proofs.YtljmcmdabdlldaaGreatDoor.typ
open Go.RowKit Go.Maps Go.Tre lex
set_option maxHeartbeats 2000000 in
theorem indexStrs (a : Option Addr) (cap : Nat) (xs : List ByteArray) (s : ByteArray) (w : World) (hx : StrsAt w a xs) (hlen : xs.length ≤ 8388608) :
  Calls Tryz.prog 100 #[.slice a xs.length cap, .string s] w fun e w' => e = .returned (.int .i64 (idxFunc (fun x => decide (s = x)) xs)) ∧ w = w' := by
 go_enter Tryz.func100, Tryz.ntmps100
 go_wp2_with fail
 go_loop [8] (fun i => ∃ k : Nat, k ≤ xs.length ∧ i = .int .i64 k ∧ (∀ j (hj : j < xs.length), j < k → decide (s = xs[j]) = false)) (fun i => xs.length - (intOf i).toNat)
 case atStart => exact ⟨0, Nat.zero_le _, rfl, fun j _ h => by omega⟩
 case round =>
  obtain ⟨k, hk, rfl, hrel⟩ := hrel
  have HR := Tre.hid hrel
  clear hrel
  by_cases hlt : k < xs.length
  ·obtain ⟨b, off, rfl, hc⟩ := hx.at_ k (.string xs[k]) (by simp [List.getElem?_eq_getElem hlt])
   by_cases hp : s = xs[k]
   ·have HO := Tre.hid (idxFunc_hit (p := fun x => decide (s = x)) hlt (decide_eq_true hp) HR.out)
    have e1 : (s.toList == xs[k].toList) = true := by rw [← hp]; exact beq_self_eq_true _
    have e2 : (s.toList = xs[k].toList) = True := by rw [← hp]; simp
    clear hp
    go_wp2_with fail
    go_ret
    exact ⟨ret_int HO.out.symm, rfl⟩
   ·have hp' : decide (s = xs[k]) = false := decide_eq_false hp
    have HP := Tre.hid hp'
    have e2 : (s.toList = xs[k].toList) = False := by rw [eq_iff_iff, iff_false]; intro e; rw [ByteArray.toList_eq, ByteArray.toList_eq] at e; exact hp (data_inj' e)
    have e1 : (s.toList == xs[k].toList) = false := by rw [beq_eq_false_iff_ne, ne_eq, e2]; exact fun h => h
    clear hp hp'
    go_wp2_with fail
    go_round
    case rel =>
     refine ⟨k + 1, by omega, by go_num, fun j hj hjk => ?_⟩
     by_cases e : j = k
     ·subst e; exact HP.out
     ·exact HR.out j hj (by omega)
    case measure => simp [intOf]; omega
  ·have HO := Tre.hid (idxFunc_miss (p := fun x => decide (s = x)) (xs := xs) (fun j hj => HR.out j hj (by omega)))
   go_wp2_with fail
   go_ret
   exact ⟨ret_int HO.out.symm, rfl⟩
set_option maxHeartbeats 1000000 in
theorem containsStrs (a : Option Addr) (cap : Nat) (xs : List ByteArray) (s : ByteArray) (w : World) (hx : StrsAt w a xs) (hlen : xs.length ≤ 8388608) (r : Bool) (hr : (xs.any fun x => decide (s = x)) = r) :
  Calls Tryz.prog 82 #[.slice a xs.length cap, .string s] w fun e w' => e = .returned (.bool r) ∧ w = w' := by
 have HI := Tre.hid (indexStrs a cap xs s w hx hlen)
 have HA := Tre.hid ((idxFunc_any (fun x => decide (s = x)) xs).trans hr)
 clear hx hr
 go_enter Tryz.func82, Tryz.ntmps82
 go_wp2_with fail
 refine HI.out.mono ?_
 rintro e w' ⟨rfl, rfl⟩
 go_wp2_with fail
 go_ret
 exact ⟨ret_bool HA.out, rfl⟩
set_option maxHeartbeats 2000000 in
theorem binEmpty (c : Nat) (s : ByteArray) (w : World) :
  Calls Tryz.prog 137 #[.slice none 0 c, .string s] w fun e w' => e = .returned (.tuple #[.int .i64 0, .bool false]) ∧ Below w.heap.size w w' := by
 go_enter Tryz.func137, Tryz.ntmps137
 go_wp2_with fail
 go_loop [7, 8] (fun i j => i = .int .i64 0 ∧ j = .int .i64 0) (fun _ _ => 0)
 case atStart => exact ⟨rfl, rfl⟩
 case round =>
  obtain ⟨rfl, rfl⟩ := hrel
  go_wp2_with fail
  go_ret2
  exact ⟨rfl, Below.refl _ _⟩
theorem binEnd (w0 : World) (rs : List Res) (w : World) (al : Option Addr) (cl : Nat) (labels : List (List UInt8)) (s : List UInt8) (hM : Mem w0 w (rowR 9 1 (.slice al labels.length cl) labels.length (labels.map fun x => .string ⟨x.toArray⟩) :: rs)) (hn : labels.length ≤ 4194304) (hs : labels.all (lessS · s) = true) :
  Calls Tryz.prog 137 #[.slice al labels.length cl, .string ⟨s.toArray⟩] w fun e w' => e = .returned (.tuple #[.int .i64 (labels.length : Int), .bool false]) ∧ Below w.heap.size w w' := by
 rcases (hM.row 0 rfl).2 with ⟨e1, e2⟩ | ⟨g, cap, cur, e1, _, hg, _⟩
 ·have : labels = [] := List.eq_nil_of_length_eq_zero e2
  subst this
  cases e1
  exact binEmpty 0 _ w
 ·obtain ⟨rfl, rfl⟩ : al = some ⟨g, 0, none⟩ ∧ cl = cap := by injection e1; exact ⟨by assumption, by assumption⟩
  clear e1
  have hall : ∀ t, t < labels.length → Op.bytesLess ((⟨(labels.getD t []).toArray⟩ : ByteArray).toList) ((⟨s.toArray⟩ : ByteArray).toList) = true := fun t ht => by
   rw [ba_list, ba_list, less_is]
   rw [List.all_eq_true] at hs
   refine hs _ ?_
   rw [List.getD_eq_getElem?_getD, List.getElem?_eq_getElem ht]
   exact List.getElem_mem ht
  have hgo := bsGo_all _ _ hall labels.length 0 labels.length (Nat.zero_le _) (Nat.le_refl _) (by omega)
  refine (Tryz.slices_BinarySearch_string g 0 labels.length cl (fun t => ⟨(labels.getD t []).toArray⟩) ⟨s.toArray⟩ w (by omega) (fun j hj => ?_)).mono ?_
  ·rw [Nat.zero_add]
   refine hM.cellAt 0 rfl j ?_
   rw [List.getElem?_map, List.getElem?_eq_getElem hj, List.getD_eq_getElem?_getD, List.getElem?_eq_getElem hj]
   rfl
  ·rintro e w' ⟨rfl, n, rfl⟩
   refine ⟨?_, Go.below_drewN (Below.refl _ _) n⟩
   rw [hgo]
   simp
def noEnd (t : Tok) : Bool := decide (t.kind = 0)
set_option maxHeartbeats 2000000 in
theorem text1 (t : Tok) (w : World) : Calls Tryz.prog 77 #[.agg #[.int .i64 t.kind, .int .i64 t.at_, .int .i64 t.n, .string ⟨t.s.toArray⟩]] w fun e w' => e = .returned (.bool (noEnd t)) ∧ Below w.heap.size w w' := by
 have M := (Mem.nil w).allocR #[.int .i64 t.kind, .int .i64 t.at_, .int .i64 t.n, .string ⟨t.s.toArray⟩] 97
 have HM := Tre.hid M
 by_cases hk : t.kind = 0
 ·have e1 : ((t.kind : Int) == 0) = true := by rw [hk]; rfl
  have H : Hid (noEnd t = true) := decide_eq_true hk
  clear hk M
  go_enter Tryz.func77, Tryz.ntmps77
  go_wp2_with fail
  go_ret
  exact ⟨ret_bool H.out.symm, HM.out.below⟩
 ·have e1 : ((t.kind : Int) == 0) = false := beq_eq_false_iff_ne.2 (by omega)
  have H : Hid (noEnd t = false) := decide_eq_false hk
  clear hk M
  go_enter Tryz.func77, Tryz.ntmps77
  go_wp2_with fail
  go_ret
  exact ⟨ret_bool H.out.symm, HM.out.below⟩
theorem hcfT (args : Array Value) (w : World) : (callFunc 77 args).run Tryz.prog w = .ok (.enter 77 args) w := by kernel_rfl
set_option maxRecDepth 100000 in
set_option maxHeartbeats 2000000 in
theorem indexToks (ad : Option Addr) (cap : Nat) (l : List Tok) (w : World) (hl : ToksAt w ad l) (hlen : l.length ≤ 4194304) :
  Calls Tryz.prog 76 #[.slice ad l.length cap, .func (.func 77) #[] #[]] w fun e w' => e = .returned (.int .i64 (idxFunc noEnd l)) ∧ Below w.heap.size w w' := by
 have HT := Tre.hid text1
 have hcf := hcfT
 go_enter Tryz.func76, Tryz.ntmps76
 go_wp2_with fail
 go_loopw [8] (fun i wr => ∃ k : Nat, k ≤ l.length ∧ i = .int .i64 k ∧ (∀ j (hj : j < l.length), j < k → noEnd l[j] = false) ∧ Below w.heap.size w wr) (fun i _ => l.length - (intOf i).toNat)
 case atStart => exact ⟨0, Nat.zero_le _, rfl, fun j _ h => by omega, Below.refl _ _⟩
 case round =>
  obtain ⟨k, hk, rfl, hrel, hb⟩ := hrel
  have HR := Tre.hid hrel
  clear hrel
  by_cases hlt : k < l.length
  ·obtain ⟨b, off, rfl, a0, a1, a2, a3⟩ := (hl.below hb).tok (List.getElem?_eq_getElem hlt)
   by_cases hp : noEnd l[k] = true
   ·have HO := Tre.hid (idxFunc_hit hlt hp HR.out)
    generalize l[k] = q at *
    go_wp2_with fail
    refine (HT.out q _).mono ?_
    rintro e w' ⟨rfl, hb'⟩
    rw [hp]
    clear hp
    go_wp2_with fail
    go_ret
    exact ⟨ret_int HO.out.symm, hb.trans (hb'.mono hb.size)⟩
   ·have hp' : noEnd l[k] = false := by simpa using hp
    have HP := Tre.hid hp'
    have HR2 : Hid (∀ j (hj : j < l.length), j < k + 1 → noEnd l[j] = false) := fun j hj hjk => by
     by_cases e : j = k
     ·subst e; exact HP.out
     ·exact HR.out j hj (by omega)
    clear hp HR
    generalize l[k] = q at *
    go_wp2_with fail
    refine (HT.out q _).mono ?_
    rintro e w' ⟨rfl, hb'⟩
    rw [hp']
    clear hp'
    go_wp2_with fail
    go_roundw
    case rel => exact ⟨k + 1, by omega, by go_num, HR2.out, hb.trans (hb'.mono hb.size)⟩
    case measure => simp [intOf]; omega
  ·have HO := Tre.hid (idxFunc_miss (p := noEnd) (xs := l) (fun j hj => HR.out j hj (by omega)))
   go_wp2_with fail
   go_ret
   exact ⟨ret_int HO.out.symm, hb⟩
set_option maxHeartbeats 2000000 in
theorem text_yes (ad : Option Addr) (cap : Nat) (l : List Tok) (w : World) (hl : ToksAt w ad l) (hlen : l.length ≤ 4194304) (h0 : 0 < l.length) (hi : idxFunc noEnd l = ((l.length - 1 : Nat) : Int)) :
  Calls Tryz.prog 59 #[.slice ad l.length cap] w fun e w' => e = .returned (.bool true) ∧ Below w.heap.size w w' := by
 have HI := Tre.hid (indexToks ad cap l w hl hlen)
 rw [hi] at HI
 have e1 : (((l.length - 1 : Nat) : Int) == (l.length : Int) - 1) = true := by rw [beq_iff_eq]; omega
 have LEN := Tre.hid h0
 have e2 : (0 : Int) < (l.length : Int) := by omega
 clear hl hi h0
 go_enter Tryz.func59, Tryz.ntmps59
 go_wp2_with fail
 refine HI.out.mono ?_
 rintro e w' ⟨rfl, hb'⟩
 have e3 : decide ((0 : Int) < (l.length : Int)) = true := decide_eq_true e2
 go_wp2_with fail
 go_ret
 refine ⟨ret_bool (decide_eq_true ?_), hb'⟩
 exact LEN.out
end Go.Proofs.YtljmcmdabdlldaaGreatDoor.typ
namespace Go.Proofs.YtljmcmdabdlldaaGreatDoor.tree
open Go.RowKit Go.Maps Go.Tre lex gr
set_option maxHeartbeats 2000000 in
theorem risingT (a : Option Addr) (cap : Nat) (l : List ByteArray) (w : World) (hl : StrsAt w a l) (hb : (l.map fun s => s.size + 1).sum ≤ 8388608) (hm : MaxAt w) :
  Calls Tryz.prog 80 #[.slice a l.length cap] w fun e w' => e = .returned (.bool (rising l)) ∧ w = w' := by
 have hlen : l.length ≤ 8388608 := Nat.le_trans (length_le_sum _ (fun x => by omega) l) hb
 go_enter Tryz.func80, Tryz.ntmps80
 go_wp2_with fail
 go_loop [7] (fun i => ∃ k : Nat, k ≤ l.length ∧ i = .int .i64 k ∧ ∀ j, j < k → labelOk l j = true) (fun i => l.length - (intOf i).toNat)
 case atStart => exact ⟨0, Nat.zero_le _, rfl, fun j h => by omega⟩
 case round =>
  obtain ⟨k, hk, rfl, hrel⟩ := hrel
  have HR := Tre.hid hrel
  clear hrel
  by_cases hlt : k < l.length
  ·obtain ⟨b, off, rfl, hc⟩ := hl.at_ k (.string l[k]) (by simp [List.getElem?_eq_getElem hlt])
   have hsz := labels_small (List.getElem_mem hlt) hb
   have hok : labelOk l k = (isName l[k] && (k == 0 || Op.bytesLess (l.getD (k - 1) ByteArray.empty).toList l[k].toList)) := by
    unfold labelOk; rw [List.getD_eq_getElem?_getD, List.getElem?_eq_getElem hlt, Option.getD_some]
   have no : labelOk l k = false → rising l = false := fun h => by
    unfold rising
    rw [← Bool.not_eq_true, List.all_eq_true]
    exact fun hh => by have := hh k (List.mem_range.2 hlt); rw [h] at this; cases this
   by_cases hn : isName l[k] = true
   ·by_cases hk0 : k = 0
    ·have HO : Hid (labelOk l k = true) := by show _ = _; rw [hok, hn]; simp [hk0]
     have e0 : ¬ (0 : Int) < (k : Int) := by omega
     clear hok no hk0
     go_wp2_with (go_at_call 65; refine (isName_any _ _ hsz hm).mono ?_; rintro e w' ⟨rfl, rfl⟩)
     go_round
     case rel =>
      refine ⟨k + 1, by omega, by go_num, fun j hj => ?_⟩
      by_cases hjk : j = k
      ·rw [hjk]; exact HO.out
      ·exact HR.out j (by omega)
     case measure => simp [intOf]; omega
    ·have hp : k - 1 < l.length := by omega
     obtain ⟨b', off', hbb, hc'⟩ := hl.at_ (k - 1) (.string l[k - 1]) (by simp [List.getElem?_eq_getElem hp])
     cases hbb
     have e0 : (0 : Int) < (k : Int) := by omega
     have e1 : (0 : Int) ≤ (k : Int) - 1 := by omega
     have hgd : l.getD (k - 1) ByteArray.empty = l[k - 1] := by rw [List.getD_eq_getElem?_getD, List.getElem?_eq_getElem hp, Option.getD_some]
     have hb0 : (k == 0) = false := by simpa using hk0
     by_cases hlo : Op.bytesLess l[k - 1].toList l[k].toList = true
     ·have HO : Hid (labelOk l k = true) := by show _ = _; rw [hok, hn, hb0, hgd, hlo]; rfl
      clear hok no hgd hb0
      go_wp2_with (go_at_call 65; refine (isName_any _ _ hsz hm).mono ?_; rintro e w' ⟨rfl, rfl⟩)
      go_round
      case rel =>
       refine ⟨k + 1, by omega, by go_num, fun j hj => ?_⟩
       by_cases hjk : j = k
       ·rw [hjk]; exact HO.out
       ·exact HR.out j (by omega)
      case measure => simp [intOf]; omega
     ·have HO : Hid (rising l = false) := no (by rw [hok, hn, hb0, hgd]; simpa using hlo)
      have hlo' : Op.bytesLess l[k - 1].toList l[k].toList = false := by simpa using hlo
      clear hok no hgd hb0 hlo
      go_wp2_with (go_at_call 65; refine (isName_any _ _ hsz hm).mono ?_; rintro e w' ⟨rfl, rfl⟩)
      go_ret
      exact ⟨ret_bool HO.out.symm, rfl⟩
   ·have hn' : isName l[k] = false := by simpa using hn
    have HO : Hid (rising l = false) := no (by rw [hok, hn']; rfl)
    clear hok no hn
    go_wp2_with (go_at_call 65; refine (isName_any _ _ hsz hm).mono ?_; rintro e w' ⟨rfl, rfl⟩)
    go_ret
    exact ⟨ret_bool HO.out.symm, rfl⟩
  ·have HO : Hid (rising l = true) := by
    show _ = _
    unfold rising
    rw [List.all_eq_true]
    exact fun j hj => HR.out j (by have := List.mem_range.1 hj; omega)
   go_wp2_with fail
   go_ret
   exact ⟨ret_bool HO.out.symm, rfl⟩

set_option maxHeartbeats 1000000 in
theorem wordT (s : ByteArray) (r : Bool) (w : World) (hs : s.size ≤ 8388608) (hm : MaxAt w) (hr : (isName s || isKey s) = r) :
  Calls Tryz.prog 81 #[.string s] w fun e w' => e = .returned (.bool r) ∧ w = w' := by
 cases hn : isName s
 ·have HR : Hid (isKey s = r) := by show _ = _; rw [← hr, hn]; rfl
  clear hr
  go_enter Tryz.func81, Tryz.ntmps81
  go_wp2_with fail
  refine (isName_any s _ hs hm).mono ?_
  rintro e w' ⟨rfl, rfl⟩
  rw [hn]
  clear hn
  go_wp2_with fail
  refine (isKey_any s _ hs hm).mono ?_
  rintro e w' ⟨rfl, rfl⟩
  rw [HR.out]
  go_wp2_with fail
  go_ret
  exact ⟨rfl, rfl⟩
 ·have HR : Hid (r = true) := by show _ = _; rw [← hr, hn]; rfl
  clear hr
  go_enter Tryz.func81, Tryz.ntmps81
  go_wp2_with fail
  refine (isName_any s _ hs hm).mono ?_
  rintro e w' ⟨rfl, rfl⟩
  rw [hn]
  clear hn
  go_wp2_with fail
  go_ret
  exact ⟨ret_bool HR.out.symm, rfl⟩
end Go.Proofs.YtljmcmdabdlldaaGreatDoor.tree
