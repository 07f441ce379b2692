/- Layer 9, plain: a least graph's key as a text; it tells the graph. Layer 9, plain: canon's example, reckoned. tree.rising, tree.word. -/
import Derived.Test.YtaleodkbghogfaaGreatDoorB19
import Derived.Test.YtaleodkbghogfaaGreatDoorB17
import Derived.Test.YtaleodkbghogfaaGreatDoorB01
set_option linter.unusedVariables false
namespace Go.Tre
open Go.Lib (decDigits itoa)
def headK (n : Tre.Node) : List UInt8 := if n.kind = 1 then [118] else if n.kind = 3 then 60 :: ((if n.isOpen then [46, 46] else []) ++ n.name.data.toList) else n.name.data.toList
def pieceK (n : Tre.Node) : List (List UInt8) := n.labels.map (fun l => l.data.toList) ++ n.args.map itoa
def nodeK (n : Tre.Node) : List UInt8 := headK n ++ (pieceK n).flatMap (fun l => 32 :: l)
def keyK (ns : List Tre.Node) : List UInt8 := ns.flatMap fun n => nodeK n ++ [59]
theorem word_bytes2 : ∀ (l : List UInt8) (b : Bool), wordFrom b l = l.length → ∀ c ∈ l, c ≠ 59
 | [], _, _ => by simp
 | x :: r, b, h => by
  unfold wordFrom at h
  by_cases hg : goesB x.toNat b = true
  ·rw [if_pos hg] at h
   have ih := word_bytes2 r false (by simp at h; omega)
   intro c hc
   rcases List.mem_cons.1 hc with rfl | hc
   ·rintro rfl; revert hg; cases b <;> decide
   ·exact ih c hc
  ·rw [if_neg hg] at h; simp at h
theorem name_first {s : ByteArray} (h : isName s = true) : ∃ c r, s.data.toList = c :: r ∧ ¬ digit c := by
 unfold isName at h
 simp only [Bool.and_eq_true, decide_eq_true_iff] at h
 have hw := h.1.2
 have h0 : s.data.toList ≠ [] := fun e => h.1.1.1 (by
  have := congrArg List.length e
  simpa using this)
 unfold wordLen at hw
 obtain ⟨c, r, e⟩ := List.exists_cons_of_ne_nil h0
 refine ⟨c, r, e, ?_⟩
 have hl : s.size = (c :: r).length := by rw [← e]; simp
 rw [e, hl] at hw
 unfold wordFrom at hw
 by_cases hg : goesB c.toNat true = true
 ·intro hd
  unfold digit at hd
  unfold goesB at hg
  revert hg
  simp
  omega
 ·rw [if_neg hg] at hw; simp at hw
theorem name_bytes2 {s : ByteArray} (h : isName s = true) : ∀ c ∈ s.data.toList, c ≠ 59 := by
 unfold isName at h
 simp only [Bool.and_eq_true, decide_eq_true_iff] at h
 have hw := h.1.2
 unfold wordLen at hw
 exact word_bytes2 _ true (by rw [hw]; simp)
theorem arity_names {s : ByteArray} {k : Int} (h : arity s = some k) : ∃ c r, s.data.toList = c :: r ∧ c ≠ 118 ∧ c ≠ 60 ∧ ∀ x ∈ c :: r, x ≠ 32 ∧ x ≠ 59 := by
 unfold arity upd at h
 split at h
 ·subst s; exact ⟨_, _, rfl, by decide⟩
 split at h
 ·subst s; exact ⟨_, _, rfl, by decide⟩
 split at h
 ·subst s; exact ⟨_, _, rfl, by decide⟩
 split at h
 ·subst s; exact ⟨_, _, rfl, by decide⟩
 split at h
 ·subst s; exact ⟨_, _, rfl, by decide⟩
 split at h
 ·subst s; exact ⟨_, _, rfl, by decide⟩
 ·cases h
structure WordsK (n : Tre.Node) : Prop where
 kind : n.kind = 1 ∨ n.kind = 2 ∨ n.kind = 3
 con : n.kind = 2 → ∃ c r, n.name.data.toList = c :: r ∧ c ≠ 118 ∧ c ≠ 60 ∧ ∀ x ∈ c :: r, x ≠ 32 ∧ x ≠ 59
 noname : n.kind ≠ 2 → n.name.data.toList = []
 shut : n.kind ≠ 3 → n.isOpen = false
 labels : ∀ l ∈ n.labels, isName l = true
 args : ∀ a ∈ n.args, 0 ≤ a
theorem wordsK_of {n : Tre.Node} {size : Nat} (h : mayB n size = true) : WordsK n := by
 unfold mayB at h
 rw [Bool.and_eq_true] at h
 have ha : ∀ a ∈ n.args, 0 ≤ a := fun a ha => by
  have h1 := h.1
  simp only [Bool.not_eq_true', List.any_eq_false] at h1
  have := h1 a ha
  unfold outside at this
  simp at this
  exact this.1
 have h := h.2
 by_cases k1 : n.kind = 1
 ·rw [if_pos k1] at h
  simp only [Bool.and_eq_true, decide_eq_true_iff, Bool.not_eq_true'] at h
  have hn : n.name.data.toList = [] := List.eq_nil_of_length_eq_zero (by simpa using h.1.2)
  have hl : n.labels = [] := List.eq_nil_of_length_eq_zero h.1.1.1
  exact ⟨.inl k1, fun e => absurd (k1.symm.trans e) (by decide), fun _ => hn, fun _ => h.1.1.2, by rw [hl]; simp, ha⟩
 rw [if_neg k1] at h
 by_cases k2 : n.kind = 2
 ·rw [if_pos k2] at h
  simp only [Bool.and_eq_true, decide_eq_true_iff, Bool.not_eq_true'] at h
  have hl : n.labels = [] := List.eq_nil_of_length_eq_zero h.1.1
  refine ⟨.inr (.inl k2), fun _ => ?_, fun e => absurd k2 e, fun _ => h.1.2, by rw [hl]; simp, ha⟩
  cases hx : arity n.name with
  | none => rw [hx] at h; simp at h
  | some k => exact arity_names hx
 rw [if_neg k2] at h
 by_cases k3 : n.kind = 3
 ·rw [if_pos k3] at h
  simp only [Bool.and_eq_true, decide_eq_true_iff] at h
  have hn : n.name.data.toList = [] := List.eq_nil_of_length_eq_zero (by simpa using h.1.1)
  exact ⟨.inr (.inr k3), fun e => absurd e k2, fun _ => hn, fun e => absurd k3 e, rising_names h.2, ha⟩
 ·rw [if_neg k3] at h; cases h
section
variable {n m : Tre.Node}
theorem itoa_nat {a : Int} (h : 0 ≤ a) : itoa a = decDigits a.toNat := by
 obtain ⟨k, rfl⟩ := Int.eq_ofNat_of_zero_le h
 rfl
theorem head_bytes (w : WordsK n) : ∀ c ∈ headK n, c ≠ 32 ∧ c ≠ 59 := by
 unfold headK
 rcases w.kind with k | k | k
 ·rw [if_pos k]; decide
 ·rw [if_neg (by rw [k]; decide), if_neg (by rw [k]; decide)]
  obtain ⟨c, r, e, _, _, h⟩ := w.con k
  rw [e]; exact h
 ·rw [if_neg (by rw [k]; decide), if_pos k, w.noname (by rw [k]; decide)]
  cases n.isOpen <;> decide
theorem piece_bytes (w : WordsK n) : ∀ l ∈ pieceK n, ∀ c ∈ l, c ≠ 32 ∧ c ≠ 59 := by
 intro l hl c hc
 rcases List.mem_append.1 hl with h | h
 ·obtain ⟨s, hs, rfl⟩ := List.mem_map.1 h
  exact ⟨(name_bytes (w.labels s hs) c hc).1, name_bytes2 (w.labels s hs) c hc⟩
 ·obtain ⟨a, ha, rfl⟩ := List.mem_map.1 h
  rw [itoa_nat (w.args a ha)] at hc
  have hd := dec_digit _ c hc
  exact ⟨(digit_ne hd).1, by rintro rfl; revert hd; unfold digit; decide⟩
theorem node_bytes (w : WordsK n) : ∀ c ∈ nodeK n, ¬ c = 59 := by
 intro c hc
 rcases List.mem_append.1 hc with h | h
 ·exact (head_bytes w c h).2
 ·obtain ⟨l, hl, h⟩ := List.mem_flatMap.1 h
  rcases List.mem_cons.1 h with rfl | h
  ·decide
  ·exact (piece_bytes w l hl c h).2
theorem head_inj (w : WordsK n) (v : WordsK m) (h : headK n = headK m) : n.kind = m.kind ∧ n.name = m.name ∧ n.isOpen = m.isOpen := by
 unfold headK at h
 have nn : ∀ {x y : Tre.Node}, x.name.data.toList = [] → y.name.data.toList = [] → x.name = y.name := fun h1 h2 => data_inj (h1.trans h2.symm)
 rcases w.kind with k | k | k <;> rcases v.kind with k' | k' | k'
 ·exact ⟨by rw [k, k'], nn (w.noname (by rw [k]; decide)) (v.noname (by rw [k']; decide)), by rw [w.shut (by rw [k]; decide), v.shut (by rw [k']; decide)]⟩
 ·rw [if_pos k, if_neg (by rw [k']; decide), if_neg (by rw [k']; decide)] at h
  obtain ⟨c, r, e, h1, _⟩ := v.con k'
  rw [e, List.cons.injEq] at h
  exact absurd h.1.symm h1
 ·rw [if_pos k, if_neg (by rw [k']; decide), if_pos k', List.cons.injEq] at h
  exact absurd h.1 (by decide)
 ·rw [if_pos k', if_neg (by rw [k]; decide), if_neg (by rw [k]; decide)] at h
  obtain ⟨c, r, e, h1, _⟩ := w.con k
  rw [e, List.cons.injEq] at h
  exact absurd h.1 h1
 ·rw [if_neg (by rw [k]; decide), if_neg (by rw [k]; decide), if_neg (by rw [k']; decide), if_neg (by rw [k']; decide)] at h
  exact ⟨by rw [k, k'], data_inj h, by rw [w.shut (by rw [k]; decide), v.shut (by rw [k']; decide)]⟩
 ·rw [if_neg (by rw [k]; decide), if_neg (by rw [k]; decide), if_neg (by rw [k']; decide), if_pos k'] at h
  obtain ⟨c, r, e, _, h1, _⟩ := w.con k
  rw [e, List.cons.injEq] at h
  exact absurd h.1 h1
 ·rw [if_pos k', if_neg (by rw [k]; decide), if_pos k, List.cons.injEq] at h
  exact absurd h.1 (by decide)
 ·rw [if_neg (show ¬ n.kind = 1 by rw [k]; decide), if_pos k, if_neg (show ¬ m.kind = 1 by rw [k']; decide), if_neg (show ¬ m.kind = 3 by rw [k']; decide)] at h
  obtain ⟨c, r, e, _, h1, _⟩ := v.con k'
  rw [e, List.cons.injEq] at h
  exact absurd h.1.symm h1
 ·rw [if_neg (show ¬ n.kind = 1 by rw [k]; decide), if_pos k, if_neg (show ¬ m.kind = 1 by rw [k']; decide), if_pos k', w.noname (by rw [k]; decide), v.noname (by rw [k']; decide), List.cons.injEq] at h
  refine ⟨by rw [k, k'], nn (w.noname (by rw [k]; decide)) (v.noname (by rw [k']; decide)), ?_⟩
  have h2 := h.2
  cases e1 : n.isOpen <;> cases e2 : m.isOpen <;> rw [e1, e2] at h2 <;> first | rfl | (revert h2; decide)
theorem split_by {α : Type} {P : α → Prop} : ∀ {l1 l2 d1 d2 : List α}, (∀ x ∈ l1, P x) → (∀ x ∈ l2, P x) → (∀ x ∈ d1, ¬ P x) → (∀ x ∈ d2, ¬ P x) → l1 ++ d1 = l2 ++ d2 → l1 = l2 ∧ d1 = d2
 | [], [], _, _, _, _, _, _, e => ⟨rfl, e⟩
 | [], y :: l2, d1, d2, _, h2, h3, _, e => by
  rw [List.nil_append] at e
  exact absurd (h2 y (by simp)) (h3 y (by rw [e]; simp))
 | x :: l1, [], d1, d2, h1, _, _, h4, e => by
  rw [List.nil_append] at e
  exact absurd (h1 x (by simp)) (h4 x (by rw [← e]; simp))
 | x :: l1, y :: l2, d1, d2, h1, h2, h3, h4, e => by
  rw [List.cons_append, List.cons_append, List.cons.injEq] at e
  obtain ⟨e1, e2⟩ := split_by (fun x hx => h1 x (by simp [hx])) (fun x hx => h2 x (by simp [hx])) h3 h4 e.2
  exact ⟨by rw [e.1, e1], e2⟩
theorem map_inj_on {α β : Type} {f : α → β} : ∀ {l m : List α}, (∀ a ∈ l, ∀ b ∈ m, f a = f b → a = b) → l.map f = m.map f → l = m
 | [], [], _, _ => rfl
 | [], _ :: _, _, h => by cases h
 | _ :: _, [], _, h => by cases h
 | a :: l, b :: m, hf, h => by
  rw [List.map_cons, List.map_cons, List.cons.injEq] at h
  rw [hf a (by simp) b (by simp) h.1, map_inj_on (fun x hx y hy => hf x (by simp [hx]) y (by simp [hy])) h.2]
theorem node_inj (w : WordsK n) (v : WordsK m) (h : nodeK n = nodeK m) : n = m := by
 have hb : ∀ q : List (List UInt8), begins (fun c => c = 32) (q.flatMap (fun l => 32 :: l)) := fun q => by
  cases q with
  | nil => exact begins_nil _
  | cons a q => exact begins_cons rfl
 obtain ⟨e1, e2⟩ := app_split (p := fun c => c = 32) (fun c hc => (head_bytes w c hc).1) (fun c hc => (head_bytes v c hc).1) (hb _) (hb _) h
 obtain ⟨h1, h2, h3⟩ := head_inj w v e1
 obtain ⟨e3, _⟩ := flat_split (p := fun _ => False) (x := 32) (r := []) (s := []) not_false (fun l hl c hc => ⟨not_false, (piece_bytes w l hl c hc).1⟩) (fun l hl c hc => ⟨not_false, (piece_bytes v l hl c hc).1⟩) (begins_nil _) (begins_nil _) (by rw [List.append_nil, List.append_nil]; exact e2)
 have isl : ∀ {x : Tre.Node}, WordsK x → ∀ l ∈ x.labels.map (fun l : ByteArray => l.data.toList), ∃ c r, l = c :: r ∧ ¬ digit c := fun hx l hl => by
  obtain ⟨s, hs, rfl⟩ := List.mem_map.1 hl
  exact name_first (hx.labels s hs)
 have isd : ∀ {x : Tre.Node}, WordsK x → ∀ l ∈ x.args.map itoa, ¬ ∃ c r, l = c :: r ∧ ¬ digit c := fun hx l hl => by
  obtain ⟨a, ha, rfl⟩ := List.mem_map.1 hl
  rintro ⟨c, r, e, hd⟩
  rw [itoa_nat (hx.args a ha)] at e
  exact hd (dec_digit _ c (by rw [e]; exact List.mem_cons_self ..))
 obtain ⟨e4, e5⟩ := split_by (isl w) (isl v) (isd w) (isd v) e3
 have h4 : n.labels = m.labels := map_inj (fun _ _ => data_inj) e4
 have h5 : n.args = m.args := map_inj_on (fun a ha b hb e => by
  have h1 := w.args a ha
  have h2 := v.args b hb
  rw [itoa_nat h1, itoa_nat h2] at e
  have := dec_inj e
  omega) e5
 cases n; cases m
 simp only at h1 h2 h3 h4 h5
 subst h1 h2 h3 h4 h5
 rfl
end
theorem keyK_inj : ∀ {l k : List Tre.Node}, (∀ n ∈ l, WordsK n) → (∀ n ∈ k, WordsK n) → keyK l = keyK k → l = k
 | [], [], _, _, _ => rfl
 | [], m :: k, _, _, h => by
  have := congrArg List.length h
  simp [keyK] at this
 | n :: l, [], _, _, h => by
  have := congrArg List.length h
  simp [keyK] at this
 | n :: l, m :: k, hl, hk, h => by
  have e : ∀ (x : Tre.Node) (r : List Tre.Node), keyK (x :: r) = nodeK x ++ (59 :: keyK r) := fun x r => by simp [keyK]
  rw [e, e] at h
  have hn := hl n (by simp)
  have hm := hk m (by simp)
  obtain ⟨e1, e2⟩ := app_split (p := fun c => c = 59) (node_bytes hn) (node_bytes hm) (begins_cons rfl) (begins_cons rfl) h
  rw [List.cons.injEq] at e2
  rw [node_inj hn hm e1, keyK_inj (fun x hx => hl x (by simp [hx])) (fun x hx => hk x (by simp [hx])) e2.2]
theorem words_least {g : Tre.Graph} (h : g.checkC = 0) : ∀ n ∈ g.leastG.ns, WordsK n := by
 have og := Graph.ok_of (least_ok h)
 intro n hn
 obtain ⟨i, hi, rfl⟩ := List.getElem_of_mem hn
 rw [← Graph.nd_eq hi]
 exact wordsK_of (og.may i hi)
theorem key_same {g h : Tre.Graph} (c0 : g.checkC = 0) (c1 : h.checkC = 0) : SameG g h ↔ keyK g.leastG.ns = keyK h.leastG.ns := by
 rw [least_iff c0 c1]
 refine ⟨fun e => by rw [e], fun e => ?_⟩
 have h1 := keyK_inj (words_least c0) (words_least c1) e
 show (⟨g.leastG.ns, 0⟩ : Tre.Graph) = ⟨h.leastG.ns, 0⟩
 rw [h1]
end Go.Tre
namespace Go.Tre
theorem okA : (graphOf tyA).checkC = 0 := by decide +kernel
theorem okB : (graphOf tyB).checkC = 0 := by decide +kernel
theorem weightA : (graphOf tyA).weight ≤ 2097152 := by decide +kernel
theorem weightB : (graphOf tyB).weight ≤ 2097152 := by decide +kernel
theorem rootA : (graphOf tyA).root = 0 := rfl
theorem rootB : (graphOf tyB).root = 0 := rfl
theorem keyA : keyK (graphOf tyA).leastG.ns = [45, 62, 32, 49, 32, 48, 59, 105, 110, 116, 59] := by decide +kernel
theorem keyB : keyK (graphOf tyB).leastG.ns = [45, 62, 32, 49, 32, 48, 59, 105, 110, 116, 59] := by decide +kernel
theorem leastA : (graphOf tyA).leastG.ns.length = 2 := by decide +kernel
end Go.Tre
namespace Go.Proofs.YtaleodkbghogfaaGreatDoor.tree
open Go.RowKit Go.Maps Go.Tre lex gr
set_option maxHeartbeats 2000000 in
theorem risingT (a : Option Addr) (cap : Nat) (l : List ByteArray) (w : World) (hl : StrsAt w a l) (hb : (l.map fun s => s.size + 1).sum ≤ 8388608) (hm : MaxAt w) :
  Calls Tryz.prog 125 #[.slice a l.length cap] w fun e w' => e = .returned (.bool (rising l)) ∧ w = w' := by
 have hlen : l.length ≤ 8388608 := Nat.le_trans (length_le_sum _ (fun x => by omega) l) hb
 go_enter Tryz.func125, Tryz.ntmps125
 go_wp2_with fail
 go_loop [7] (fun i => ∃ k : Nat, k ≤ l.length ∧ i = .int .i64 k ∧ ∀ j, j < k → labelOk l j = true) (fun i => l.length - (intOf i).toNat)
 case atStart => exact ⟨0, Nat.zero_le _, rfl, fun j h => by omega⟩
 case round =>
  obtain ⟨k, hk, rfl, hrel⟩ := hrel
  have HR := Tre.hid hrel
  clear hrel
  by_cases hlt : k < l.length
  ·obtain ⟨b, off, rfl, hc⟩ := hl.at_ k (.string l[k]) (by simp [List.getElem?_eq_getElem hlt])
   have hsz := labels_small (List.getElem_mem hlt) hb
   have hok : labelOk l k = (isName l[k] && (k == 0 || Op.bytesLess (l.getD (k - 1) ByteArray.empty).toList l[k].toList)) := by
    unfold labelOk; rw [List.getD_eq_getElem?_getD, List.getElem?_eq_getElem hlt, Option.getD_some]
   have no : labelOk l k = false → rising l = false := fun h => by
    unfold rising
    rw [← Bool.not_eq_true, List.all_eq_true]
    exact fun hh => by have := hh k (List.mem_range.2 hlt); rw [h] at this; cases this
   by_cases hn : isName l[k] = true
   ·by_cases hk0 : k = 0
    ·have HO : Hid (labelOk l k = true) := by show _ = _; rw [hok, hn]; simp [hk0]
     have e0 : ¬ (0 : Int) < (k : Int) := by omega
     clear hok no hk0
     go_wp2_with (go_at_call 60; refine (isName_any _ _ hsz hm).mono ?_; rintro e w' ⟨rfl, rfl⟩)
     go_round
     case rel =>
      refine ⟨k + 1, by omega, by go_num, fun j hj => ?_⟩
      by_cases hjk : j = k
      ·rw [hjk]; exact HO.out
      ·exact HR.out j (by omega)
     case measure => simp [intOf]; omega
    ·have hp : k - 1 < l.length := by omega
     obtain ⟨b', off', hbb, hc'⟩ := hl.at_ (k - 1) (.string l[k - 1]) (by simp [List.getElem?_eq_getElem hp])
     cases hbb
     have e0 : (0 : Int) < (k : Int) := by omega
     have e1 : (0 : Int) ≤ (k : Int) - 1 := by omega
     have hgd : l.getD (k - 1) ByteArray.empty = l[k - 1] := by rw [List.getD_eq_getElem?_getD, List.getElem?_eq_getElem hp, Option.getD_some]
     have hb0 : (k == 0) = false := by simpa using hk0
     by_cases hlo : Op.bytesLess l[k - 1].toList l[k].toList = true
     ·have HO : Hid (labelOk l k = true) := by show _ = _; rw [hok, hn, hb0, hgd, hlo]; rfl
      clear hok no hgd hb0
      go_wp2_with (go_at_call 60; refine (isName_any _ _ hsz hm).mono ?_; rintro e w' ⟨rfl, rfl⟩)
      go_round
      case rel =>
       refine ⟨k + 1, by omega, by go_num, fun j hj => ?_⟩
       by_cases hjk : j = k
       ·rw [hjk]; exact HO.out
       ·exact HR.out j (by omega)
      case measure => simp [intOf]; omega
     ·have HO : Hid (rising l = false) := no (by rw [hok, hn, hb0, hgd]; simpa using hlo)
      have hlo' : Op.bytesLess l[k - 1].toList l[k].toList = false := by simpa using hlo
      clear hok no hgd hb0 hlo
      go_wp2_with (go_at_call 60; refine (isName_any _ _ hsz hm).mono ?_; rintro e w' ⟨rfl, rfl⟩)
      go_ret
      exact ⟨ret_bool HO.out.symm, rfl⟩
   ·have hn' : isName l[k] = false := by simpa using hn
    have HO : Hid (rising l = false) := no (by rw [hok, hn']; rfl)
    clear hok no hn
    go_wp2_with (go_at_call 60; refine (isName_any _ _ hsz hm).mono ?_; rintro e w' ⟨rfl, rfl⟩)
    go_ret
    exact ⟨ret_bool HO.out.symm, rfl⟩
  ·have HO : Hid (rising l = true) := by
    show _ = _
    unfold rising
    rw [List.all_eq_true]
    exact fun j hj => HR.out j (by have := List.mem_range.1 hj; omega)
   go_wp2_with fail
   go_ret
   exact ⟨ret_bool HO.out.symm, rfl⟩

set_option maxHeartbeats 1000000 in
theorem wordT (s : ByteArray) (r : Bool) (w : World) (hs : s.size ≤ 8388608) (hm : MaxAt w) (hr : (isName s || isKey s) = r) :
  Calls Tryz.prog 126 #[.string s] w fun e w' => e = .returned (.bool r) ∧ w = w' := by
 cases hn : isName s
 ·have HR : Hid (isKey s = r) := by show _ = _; rw [← hr, hn]; rfl
  clear hr
  go_enter Tryz.func126, Tryz.ntmps126
  go_wp2_with fail
  refine (isName_any s _ hs hm).mono ?_
  rintro e w' ⟨rfl, rfl⟩
  rw [hn]
  clear hn
  go_wp2_with fail
  refine (isKey_any s _ hs hm).mono ?_
  rintro e w' ⟨rfl, rfl⟩
  rw [HR.out]
  go_wp2_with fail
  go_ret
  exact ⟨rfl, rfl⟩
 ·have HR : Hid (r = true) := by show _ = _; rw [← hr, hn]; rfl
  clear hr
  go_enter Tryz.func126, Tryz.ntmps126
  go_wp2_with fail
  refine (isName_any s _ hs hm).mono ?_
  rintro e w' ⟨rfl, rfl⟩
  rw [hn]
  clear hn
  go_wp2_with fail
  go_ret
  exact ⟨ret_bool HR.out.symm, rfl⟩
end Go.Proofs.YtaleodkbghogfaaGreatDoor.tree
