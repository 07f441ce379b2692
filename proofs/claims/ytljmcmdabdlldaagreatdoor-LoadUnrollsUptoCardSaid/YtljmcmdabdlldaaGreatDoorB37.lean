/- LoadUnrolls: what goes round, in memory: once, and once more with its parts in common. load.Load over any table; the inner function of LoadUnrolls. -/
import Derived.Test.YtljmcmdabdlldaaGreatDoorB36
import Derived.Test.YtljmcmdabdlldaaGreatDoorB33
import Derived.Test.YtljmcmdabdlldaaGreatDoorB07
set_option linter.unusedVariables false
namespace Go.Tre
open Go.RowKit
def FiveAt (w : World) (b off : Nat) (v : Array Value) : Prop := v.size = 5 ∧ ∀ (j : Nat) (u : Value), v[j]? = some u → w.cell? ⟨b, off + j, none⟩ = some u
def tyCells (t : Ty) (aa al : Option Addr) (ca cl : Nat) : Array Value := #[.int .i64 t.kind, .string ⟨t.s.toArray⟩, .slice aa t.args.length ca, .slice al t.labels.length cl, .bool t.opn]
structure Around (w : World) (A L : Nat) (x y : Array Value) : Prop where
 one : FiveAt w A 0 x
 two : FiveAt w A 5 y
 plain : ∃ cs T, w.heap[A]? = some (.cells cs T (0, 0))
 l0 : w.cell? ⟨L, 0, none⟩ = some (.string ⟨#[109]⟩)
 l1 : w.cell? ⟨L, 1, none⟩ = some (.string ⟨#[110, 101, 120, 116]⟩)
theorem FiveAt.below {w w' : World} {b off : Nat} {v : Array Value} (h : FiveAt w b off v) (hb : Below w.heap.size w w') : FiveAt w' b off v := ⟨h.1, fun j u hu => cell_below hb (h.2 j u hu)⟩
theorem Around.below {w w' : World} {A L : Nat} {x y : Array Value} (h : Around w A L x y) (hb : Below w.heap.size w w') : Around w' A L x y := by
 obtain ⟨cs, T, hp⟩ := h.plain
 exact ⟨h.one.below hb, h.two.below hb, ⟨cs, T, (hb.block A (Array.getElem?_eq_some_iff.1 hp).1).trans hp⟩, cell_below hb h.l0, cell_below hb h.l1⟩
def objCells (A L : Nat) : Array Value := #[.int .i64 3, .string ⟨#[]⟩, .slice (some ⟨A, 0, none⟩) 2 2, .slice (some ⟨L, 0, none⟩) 2 2, .bool false]
def varCells : Array Value := #[.int .i64 1, .string ⟨#[108, 111, 111, 112]⟩, .slice none 0 0, .slice none 0 0, .bool false]
def rootCells (A1 : Nat) : Array Value := #[.int .i64 4, .string ⟨#[108, 111, 111, 112]⟩, .slice (some ⟨A1, 0, none⟩) 1 1, .slice none 0 0, .bool false]
theorem around_labels {w : World} {A L : Nat} {x y : Array Value} (h : Around w A L x y) : ∀ (i : Nat) (z : List UInt8), nextL[i]? = some z → ∃ b off, (some ⟨L, 0, none⟩ : Option Addr) = some ⟨b, off, none⟩ ∧ b = L ∧ w.cell? ⟨b, off + i, none⟩ = some (.string ⟨z.toArray⟩) := fun i z hz => by
 refine ⟨L, 0, rfl, rfl, ?_⟩
 match i, hz with
 | 0, hz => cases hz; exact h.l0
 | 1, hz => cases hz; exact h.l1
 | i + 2, hz => simp [nextL] at hz
theorem around_cells {w : World} {A L : Nat} {x y : Array Value} (h : Around w A L x y) (i : Nat) (hi : i < 2) : (if i = 0 then x else y).size = 5 ∧ ∀ (j : Nat) (u : Value), (if i = 0 then x else y)[j]? = some u → w.cell? ⟨A, 0 + i * 5 + j, none⟩ = some u := by
 match i, hi with
 | 0, _ => exact ⟨h.one.1, fun j u hu => by have := h.one.2 j u hu; simpa using this⟩
 | 1, _ => exact ⟨h.two.1, fun j u hu => by have := h.two.2 j u hu; simpa using this⟩
theorem var_in (w : World) (O : Nat → Prop) : TyIn w O (tyVar loopS) (.agg varCells) :=
 .mk (args := []) (labels := []) (fun _ => #[]) (fun _ _ => False) (Nat.le_refl _) (Nat.le_refl _) (fun i x h => by simp at h) (fun i h => absurd h (Nat.not_lt_zero i)) (fun _ _ h => h.elim) (fun _ _ _ h => h.elim) (fun i t h => by simp at h)
theorem one_in {w : World} {O : Nat → Prop} {t : Ty} {V : Array Value} {A L A1 : Nat} (hT : TyIn w O t (.agg V)) (h : Around w A L V varCells) (hA : ¬ O A) (hr : FiveAt w A1 0 (objCells A L)) (hp : ∃ cs T, w.heap[A1]? = some (.cells cs T (0, 0))) (h1 : ¬ (A1 = A ∨ A1 = L ∨ O A1)) :
  TyIn w (fun b => b = A1 ∨ b = A ∨ b = L ∨ O b) (rollOne t) (.agg (rootCells A1)) := by
 have ho : TyIn w (fun b => b = A ∨ b = L ∨ O b) (around t (tyVar loopS)) (.agg (objCells A L)) := by
  refine .mk (args := [t, tyVar loopS]) (labels := nextL) (fun i => if i = 0 then V else varCells) (fun i b => i = 0 ∧ O b) (Nat.le_refl _) (Nat.le_refl _) (fun i x hx => ?_) (fun i hi => ?_) (fun i b hb => .inr (.inr hb.2)) (fun i j b hb hb' => hb.1.trans hb'.1.symm) (fun i u hu => ?_)
  ·obtain ⟨b, off, e, hb, hc⟩ := around_labels h i x hx
   exact ⟨b, off, e, .inr (.inl hb), hc⟩
  ·have := around_cells h i hi
   exact ⟨A, 0, rfl, .inl rfl, h.plain, fun j hj => hA hj.2, this.1, this.2⟩
  ·match i, hu with
   | 0, hu => cases hu; exact hT.wide fun b hb => ⟨rfl, hb⟩
   | 1, hu => cases hu; exact var_in w _
   | i + 2, hu => simp at hu
 refine .mk (args := [around t (tyVar loopS)]) (labels := []) (fun _ => objCells A L) (fun i b => i = 0 ∧ (b = A ∨ b = L ∨ O b)) (Nat.le_refl _) (Nat.le_refl _) (fun i x hx => by simp at hx) (fun i hi => ?_) (fun i b hb => .inr hb.2) (fun i j b hb hb' => hb.1.trans hb'.1.symm) (fun i u hu => ?_)
 ·have hi0 : i = 0 := by simp at hi; exact hi
  subst hi0
  exact ⟨A1, 0, rfl, .inl rfl, hp, fun j hj => h1 hj.2, rfl, fun j u hu => by have := hr.2 j u hu; simpa using this⟩
 ·match i, hu with
  | 0, hu => cases hu; exact ho.wide fun b hb => ⟨rfl, hb⟩
  | i + 1, hu => simp at hu
theorem two_rd {w : World} {t : Ty} {V : Array Value} {A2 L2 A3 L3 A1 : Nat} (hT : TyRd w t (.agg V)) (h2 : Around w A2 L2 V (objCells A3 L3)) (h3 : Around w A3 L3 V varCells) (hr : FiveAt w A1 0 (objCells A2 L2)) : TyRd w (rollTwo t) (.agg (rootCells A1)) := by
 have hv : TyRd w (tyVar loopS) (.agg varCells) := (var_in w (fun _ => True)).rd
 have obj : ∀ (A L : Nat) (u : Ty) (y : Array Value), Around w A L V y → TyRd w u (.agg y) → TyRd w (around t u) (.agg (objCells A L)) := fun A L u y h hu => by
  refine .mk (args := [t, u]) (labels := nextL) (fun i => if i = 0 then V else y) (fun i x hx => ?_) (fun i hi => ?_) (fun i u' hu' => ?_)
  ·obtain ⟨b, off, e, _, hc⟩ := around_labels h i x hx
   exact ⟨b, off, e, hc⟩
  ·have := around_cells h i hi
   exact ⟨A, 0, rfl, this.1, this.2⟩
  ·match i, hu' with
   | 0, hu' => cases hu'; exact hT
   | 1, hu' => cases hu'; exact hu
   | i + 2, hu' => simp at hu'
 refine .mk (args := [around t (around t (tyVar loopS))]) (labels := []) (fun _ => objCells A2 L2) (fun i x hx => by simp at hx) (fun i hi => ?_) (fun i u hu => ?_)
 ·have hi0 : i = 0 := by simp at hi; exact hi
  subst hi0
  exact ⟨A1, 0, rfl, rfl, fun j u hu => by have := hr.2 j u hu; simpa using this⟩
 ·match i, hu with
  | 0, hu => cases hu; exact obj A2 L2 _ _ h2 (obj A3 L3 _ _ h3 hv)
  | i + 1, hu => simp at hu
def ad2 (ad : Nat → Addr) (R A1 A2 A3 : Nat) : Nat → Addr
 | 0 => ⟨R, 0, none⟩
 | 1 => ⟨A1, 0, none⟩
 | 2 => ⟨A2, 0, none⟩
 | 3 => ⟨A2, 5, none⟩
 | 4 => ⟨A3, 0, none⟩
 | 5 => ⟨A3, 5, none⟩
 | i + 6 => ad (i + 1)
theorem ad2_part (ad : Nat → Addr) (R A1 A2 A3 y : Nat) (hy : 1 ≤ y) : ad2 ad R A1 A2 A3 (y + 5) = ad y := by
 obtain ⟨z, rfl⟩ : ∃ z, y = z + 1 := ⟨y - 1, by omega⟩
 show ad2 ad R A1 A2 A3 (z + 6) = _
 rfl
theorem two_ents {w0 w : World} {t : Ty} {ad : Nat → Addr} {aa al : Option Addr} {ca cl bT R A1 A2 L2 A3 L3 : Nat} (hE : EntsAt w0 (flat t 0) ad) (hb : Below w0.heap.size w0 w) (h0 : ad 0 = ⟨bT, 0, none⟩)
  (hc2 : w0.cell? ⟨bT, 2, none⟩ = some (.slice aa t.args.length ca)) (hc3 : w0.cell? ⟨bT, 3, none⟩ = some (.slice al t.labels.length cl))
  (hR : FiveAt w R 0 (rootCells A1)) (h1 : FiveAt w A1 0 (objCells A2 L2)) (h2 : Around w A2 L2 (tyCells t aa al ca cl) (objCells A3 L3)) (h3 : Around w A3 L3 (tyCells t aa al ca cl) varCells)
  (pR : ∃ cs T, w.heap[R]? = some (.cells cs T (0, 0))) (p1 : ∃ cs T, w.heap[A1]? = some (.cells cs T (0, 0)))
  (fR : w0.heap.size ≤ R) (f1 : w0.heap.size ≤ A1) (f2 : w0.heap.size ≤ A2) (f3 : w0.heap.size ≤ A3) (d1 : R ≠ A1) (d2 : R ≠ A2) (d3 : R ≠ A3) (d4 : A1 ≠ A2) (d5 : A1 ≠ A3) (d6 : A2 ≠ A3) :
  EntsAt w (tabTwo t) (ad2 ad R A1 A2 A3) := by
 have hpos := t.count_pos
 obtain ⟨root, hroot⟩ := entry (t := t) 0 hpos
 have hup : ∀ (i : Nat) (e : Ent), (flat t 0)[i]? = some e → ∀ y ∈ e.args, 1 ≤ y := fun i e he y hy => by have := flat_rises t i e he y hy; omega
 have eroot : root = ⟨t.kind, t.s, idxs t.args 1, t.labels, t.opn⟩ := by
  rw [flat_head] at hroot
  cases hroot; rfl
 have strs : ∀ A L (x y : Array Value), Around w A L x y → StrsAt w (some ⟨L, 0, none⟩) (byteStrs nextL) := fun A L x y h => strs_rd (fun i z hz => by
  obtain ⟨b, off, e, _, hc⟩ := around_labels h i z hz
  exact ⟨b, off, e, hc⟩)
 obtain ⟨b, off, aa', ca', al', cl', ha, k0, k1, k2, k3, k4, k5, k6, k7⟩ := hE.at_ 0 root hroot
 rw [h0] at ha
 cases ha
 rw [show (0 : Nat) + 2 = 2 from rfl, hc2] at k2
 obtain ⟨q1, q2⟩ : aa = aa' ∧ ca = ca' := by
  have h := Option.some.inj k2
  injection h with q1 _ q3
  exact ⟨q1, q3⟩
 subst q1 q2
 rw [show (0 : Nat) + 3 = 3 from rfl, hc3] at k3
 obtain ⟨q3, q4⟩ : al = al' ∧ cl = cl' := by
  have h := Option.some.inj k3
  injection h with q1 _ q3
  exact ⟨q1, q3⟩
 subst q3 q4
 have copy : ∀ (k A off : Nat), FiveAt w A off (tyCells t aa al ca cl) → (∃ cs T, w.heap[A]? = some (.cells cs T (0, 0))) → ad2 ad R A1 A2 A3 k = ⟨A, off, none⟩ → EntAt w (ad2 ad R A1 A2 A3) k (shiftE 5 root) := fun k A off hf hp hk => by
  have hl : (shiftE 5 root).args.length = t.args.length := by rw [eroot]; simp [shiftE, idxs_len]
  refine ⟨A, off, aa, ca, al, cl, hk, ?_, ?_, ?_, ?_, ?_, ?_, hp, fun j x hx => ?_⟩
  ·rw [eroot]; exact hf.2 0 _ rfl
  ·rw [eroot]; exact hf.2 1 _ rfl
  ·rw [hl]; exact hf.2 2 _ rfl
  ·rw [eroot]; exact hf.2 3 _ rfl
  ·rw [eroot]; exact hf.2 4 _ rfl
  ·exact k5.below hb
  ·simp only [shiftE, List.getElem?_map] at hx
   obtain ⟨y, hy, rfl⟩ := Option.map_eq_some_iff.1 hx
   obtain ⟨b', off', e1, e2⟩ := k7 j y hy
   exact ⟨b', off', e1, by rw [ad2_part _ _ _ _ _ _ (hup 0 root hroot y (List.mem_of_getElem? hy))]; exact e2⟩
 have part : ∀ (i : Nat) (f : Ent), (flat t 0)[i + 1]? = some f → EntAt w (ad2 ad R A1 A2 A3) (6 + i) (shiftE 5 f) := fun i f hf => by
  obtain ⟨b, off, aa, ca, al, cl, ha, k0, k1, k2, k3, k4, k5, k6, k7⟩ := (hE.at_ (i + 1) f hf).below hb
  have hl : (shiftE 5 f).args.length = f.args.length := by simp [shiftE]
  refine ⟨b, off, aa, ca, al, cl, by rw [Nat.add_comm 6 i]; exact ha, k0, k1, by rw [hl]; exact k2, k3, k4, k5, k6, fun j x hx => ?_⟩
  simp only [shiftE, List.getElem?_map] at hx
  obtain ⟨y, hy, rfl⟩ := Option.map_eq_some_iff.1 hx
  obtain ⟨b', off', e1, e2⟩ := k7 j y hy
  exact ⟨b', off', e1, by rw [ad2_part _ _ _ _ _ _ (hup (i + 1) f hf y (List.mem_of_getElem? hy))]; exact e2⟩
 have low : ∀ i, i < t.count → (ad i).block < w0.heap.size := fun i hi => by
  obtain ⟨e, he⟩ := entry (t := t) i hi
  obtain ⟨b, off, _, _, _, _, ha, k0, _⟩ := hE.at_ i e he
  rw [ha]
  exact World.block_lt_of_cell? _ _ k0
 have lenT := tabTwo_len t
 refine ⟨fun i e he => ?_, fun i j hi hj hij => ?_⟩
 ·have hl := (List.getElem?_eq_some_iff.1 he).1
  match i, he, hl with
  | 0, he, _ =>
   cases he
   exact ⟨R, 0, some ⟨A1, 0, none⟩, 1, none, 0, rfl, hR.2 0 _ rfl, hR.2 1 _ rfl, hR.2 2 _ rfl, hR.2 3 _ rfl, hR.2 4 _ rfl, ⟨rfl, fun j u hu => by simp [byteStrs] at hu⟩, pR, fun j x hx => by
    match j, hx with
    | 0, hx => cases hx; exact ⟨A1, 0, rfl, rfl⟩
    | j + 1, hx => simp at hx⟩
  | 1, he, _ =>
   cases he
   exact ⟨A1, 0, some ⟨A2, 0, none⟩, 2, some ⟨L2, 0, none⟩, 2, rfl, h1.2 0 _ rfl, h1.2 1 _ rfl, h1.2 2 _ rfl, h1.2 3 _ rfl, h1.2 4 _ rfl, strs A2 L2 _ _ h2, p1, fun j x hx => by
    match j, hx with
    | 0, hx => cases hx; exact ⟨A2, 0, rfl, rfl⟩
    | 1, hx => cases hx; exact ⟨A2, 0, rfl, rfl⟩
    | j + 2, hx => simp at hx⟩
  | 2, he, _ =>
   rw [(two_root hroot).1] at he
   cases he
   exact copy 2 A2 0 h2.one h2.plain rfl
  | 3, he, _ =>
   cases he
   exact ⟨A2, 5, some ⟨A3, 0, none⟩, 2, some ⟨L3, 0, none⟩, 2, rfl, h2.two.2 0 _ rfl, h2.two.2 1 _ rfl, h2.two.2 2 _ rfl, h2.two.2 3 _ rfl, h2.two.2 4 _ rfl, strs A3 L3 _ _ h3, h2.plain, fun j x hx => by
    match j, hx with
    | 0, hx => cases hx; exact ⟨A3, 0, rfl, rfl⟩
    | 1, hx => cases hx; exact ⟨A3, 0, rfl, rfl⟩
    | j + 2, hx => simp at hx⟩
  | 4, he, _ =>
   rw [(two_root hroot).2] at he
   cases he
   exact copy 4 A3 0 h3.one h3.plain rfl
  | 5, he, _ =>
   cases he
   exact ⟨A3, 5, none, 0, none, 0, rfl, h3.two.2 0 _ rfl, h3.two.2 1 _ rfl, h3.two.2 2 _ rfl, h3.two.2 3 _ rfl, h3.two.2 4 _ rfl, ⟨rfl, fun j u hu => by simp [byteStrs] at hu⟩, h3.plain, fun j x hx => by simp at hx⟩
  | i + 6, he, hl =>
   obtain ⟨f, hf⟩ := entry (t := t) (i + 1) (by omega)
   have h := two_part hf
   rw [Nat.add_comm i 6] at he ⊢
   rw [h] at he
   cases he
   exact part i f hf
 ·have hbl : ∀ k, k < (tabTwo t).length → ((ad2 ad R A1 A2 A3 k = ⟨R, 0, none⟩ ∧ k = 0) ∨ (ad2 ad R A1 A2 A3 k = ⟨A1, 0, none⟩ ∧ k = 1) ∨ (ad2 ad R A1 A2 A3 k = ⟨A2, 0, none⟩ ∧ k = 2) ∨ (ad2 ad R A1 A2 A3 k = ⟨A2, 5, none⟩ ∧ k = 3) ∨ (ad2 ad R A1 A2 A3 k = ⟨A3, 0, none⟩ ∧ k = 4) ∨ (ad2 ad R A1 A2 A3 k = ⟨A3, 5, none⟩ ∧ k = 5) ∨ ∃ z, z + 1 < t.count ∧ k = z + 6 ∧ ad2 ad R A1 A2 A3 k = ad (z + 1)) := fun k hk => by
   match k, hk with
   | 0, _ => exact .inl ⟨rfl, rfl⟩
   | 1, _ => exact .inr (.inl ⟨rfl, rfl⟩)
   | 2, _ => exact .inr (.inr (.inl ⟨rfl, rfl⟩))
   | 3, _ => exact .inr (.inr (.inr (.inl ⟨rfl, rfl⟩)))
   | 4, _ => exact .inr (.inr (.inr (.inr (.inl ⟨rfl, rfl⟩))))
   | 5, _ => exact .inr (.inr (.inr (.inr (.inr (.inl ⟨rfl, rfl⟩)))))
   | z + 6, hk => exact .inr (.inr (.inr (.inr (.inr (.inr ⟨z, by omega, rfl, rfl⟩)))))
  have hnew : ∀ z, z + 1 < t.count → ∀ (b off : Nat), w0.heap.size ≤ b → ad (z + 1) ≠ ⟨b, off, none⟩ := fun z hz b off hb e => by
   have := low (z + 1) hz
   rw [e] at this
   simp only at this
   omega
  rcases hbl i hi with ⟨e, k⟩ | ⟨e, k⟩ | ⟨e, k⟩ | ⟨e, k⟩ | ⟨e, k⟩ | ⟨e, k⟩ | ⟨z, hz, k, e⟩ <;> rcases hbl j hj with ⟨e', k'⟩ | ⟨e', k'⟩ | ⟨e', k'⟩ | ⟨e', k'⟩ | ⟨e', k'⟩ | ⟨e', k'⟩ | ⟨z', hz', k', e'⟩ <;> rw [e, e'] at hij
  all_goals first
   | omega
   | (injection hij with q1 q2; first | omega | (exfalso; exact absurd q1 (by assumption)) | (exfalso; exact absurd q1.symm (by assumption)) | (exfalso; omega))
   | exact absurd hij (hnew _ (by assumption) _ _ (by assumption))
   | exact absurd hij.symm (hnew _ (by assumption) _ _ (by assumption))
   | (have h := hE.inj (z + 1) (z' + 1) (by rw [flat_len]; exact hz) (by rw [flat_len]; exact hz') hij; omega)
end Go.Tre
namespace Go.Tre
theorem tabTwo_small {t : Ty} (h : t.weight ≤ 100000) : SmallT (tabTwo t) ∧ ((tabTwo t).map Ent.w).sum ≤ 4 * t.weight + 60 := by
 have hs := flat_smallT (t := t) (by omega)
 have hw := flat_weight t 0
 have e1 : flats t.args 6 = (flats t.args 1).map (shiftE 5) := flats_shift 5 t.args 1
 have hsh : ∀ e : Ent, (shiftE 5 e).w = e.w := fun e => by unfold Ent.w shiftE; simp
 have e2 : ((flats t.args 6).map Ent.w).sum = ((flats t.args 1).map Ent.w).sum := by
  rw [e1, List.map_map]
  congr 1
  exact List.map_congr_left fun e _ => hsh e
 have e3 : ((flat t 0).map Ent.w).sum = (⟨t.kind, t.s, idxs t.args 1, t.labels, t.opn⟩ : Ent).w + ((flats t.args 1).map Ent.w).sum := by
  rw [flat_head]; rfl
 have hw' : ((flat t 0).map Ent.w).sum + 1 ≤ 2 * t.weight := hw
 have e4 : (⟨t.kind, t.s, idxs t.args 6, t.labels, t.opn⟩ : Ent).w = (⟨t.kind, t.s, idxs t.args 1, t.labels, t.opn⟩ : Ent).w := by
  unfold Ent.w
  simp only [idxs_len]
 have k1 : (⟨4, loopS, [1], [], false⟩ : Ent).w = 6 := rfl
 have k2 : (⟨3, [], [2, 3], nextL, false⟩ : Ent).w = 10 := rfl
 have k3 : (⟨3, [], [4, 5], nextL, false⟩ : Ent).w = 10 := rfl
 have k4 : (⟨1, loopS, [], [], false⟩ : Ent).w = 5 := rfl
 refine ⟨?_, ?_⟩
 ·have key : ∀ e ∈ tabTwo t, e.s.length ≤ 4194304 ∧ e.args.length ≤ 4194304 ∧ e.labels.length ≤ 4194304 := fun e he => by
   rcases two_mem he with rfl | rfl | rfl | rfl | ⟨f, hf, rfl⟩
   ·exact ⟨by decide, by decide, by decide⟩
   ·exact ⟨by decide, by decide, by decide⟩
   ·exact ⟨by decide, by decide, by decide⟩
   ·exact ⟨by decide, by decide, by decide⟩
   ·obtain ⟨i, hi⟩ := List.getElem?_of_mem hf
    exact ⟨hs.s i f hi, by simpa [shiftE] using hs.args i f hi, hs.labs i f hi⟩
  exact ⟨fun i e he => (key e (List.mem_of_getElem? he)).1, fun i e he => (key e (List.mem_of_getElem? he)).2.1, fun i e he => (key e (List.mem_of_getElem? he)).2.2⟩
 ·unfold tabTwo
  simp only [List.map_cons, List.sum_cons, e2, e4, k1, k2, k3, k4]
  omega
theorem tabTwo_args {t : Ty} (hw : 0 ≤ walkT t) : ∀ (i : Nat) (e : Ent), (tabTwo t)[i]? = some e → e.kind = 4 → 0 < e.args.length := fun i e he h4 => by
 rcases two_mem (List.mem_of_getElem? he) with rfl | rfl | rfl | rfl | ⟨f, hf, rfl⟩
 ·decide
 ·cases h4
 ·cases h4
 ·cases h4
 ·obtain ⟨j, hj⟩ := List.getElem?_of_mem hf
  have := as_args hw j f hj h4
  simpa [shiftE] using this
theorem two_graph {t : Ty} {K : Nat} {g : Tre.Graph} (hw : t.weight ≤ 100000) (h : TabLoads (tabTwo t) K g) : g.ns.length ≤ 1048576 ∧ g.weight ≤ 2097152 := by
 obtain ⟨bd, a, st, _, _, hn, _, rfl⟩ := h
 have L := loaded_of hn
 have h1 := L.len
 have h2 := L.weight
 have h3 := (tabTwo_small hw).2
 rw [tabTwo_len] at h1
 have := count_weight t
 exact ⟨by show st.ns.length ≤ _; omega, by omega⟩
end Go.Tre
namespace Go.Proofs.YtljmcmdabdlldaaGreatDoor.load
open Go.RowKit Go.Maps Go.Shelf Go.Tre lex gr tree
theorem Load_gen (t : Ty) (aa al : Option Addr) (ca cl : Nat) (w : World) (hT : TyRd w t (.agg #[.int .i64 t.kind, .string ⟨t.s.toArray⟩, .slice aa t.args.length ca, .slice al t.labels.length cl, .bool t.opn])) (hw : t.weight ≤ 4194304) (hm : MaxAt w)
  (T : List Ent) (K : Nat) (hS : SmallT T) (hR : Rises T) (hA : ∀ (i : Nat) (e : Ent), T[i]? = some e → e.kind = 4 → 0 < e.args.length) (hpos : 0 < T.length) (hfu : T.length ≤ K) (ad : Nat → Addr)
  (hE : EntsAt (w.alloc (.cells #[.int .i64 t.kind, .string ⟨t.s.toArray⟩, .slice aa t.args.length ca, .slice al t.labels.length cl, .bool t.opn] 28)) T ad) (h0 : ad 0 = ⟨w.heap.size, 0, none⟩)
  (hor : TabFails T K ∨ ∃ g, TabLoads T K g ∧ g.ns.length ≤ 1048576 ∧ g.weight ≤ 2097152) :
  Calls Tryz.prog 10 #[.agg #[.int .i64 t.kind, .string ⟨t.s.toArray⟩, .slice aa t.args.length ca, .slice al t.labels.length cl, .bool t.opn]] w fun e w' =>
   ∃ (ec : Int) (v : Value) (ds : List NodeV), e = .returned (.tuple #[.agg #[v, .int .i64 0], .int .i64 ec]) ∧ Mem w w' [nodesR v ds, kidsR ds] ∧ ((ec = 0 ∧ ∃ g, TabLoads T K g ∧ ds.map NodeV.n = g.trim.ns ∧ g.weight ≤ 2097152) ∨ ec ≠ 0) := by
 by_cases hv : verdictI (walkT t) = 0
 ·rcases hor with hf | ⟨g, ⟨bd, a, st, hb, hfo, hn, hn2, rfl⟩, hl, hw2⟩
  ·refine (Load_tab t aa al ca cl w hT hv hw hm T K hS hR hA hpos hfu ad hE h0 hf).mono ?_
   rintro e w' ⟨rfl, b⟩
   exact ⟨6, .slice none 0 0, [], rfl, ((Mem.of_below b).addMany.addNil 39 5), .inr (by decide)⟩
  ·refine (Load_ok t aa al ca cl w hT hv hw hm T ad hS hE h0 K bd.1 bd.2 hn2 hb hfo a st hn hl hw2).mono ?_
   rintro e w' ⟨v, ds, rfl, hd, m⟩
   exact ⟨0, v, ds, rfl, m, .inl ⟨rfl, _, ⟨bd, a, st, hb, hfo, hn, hn2, rfl⟩, hd, hw2⟩⟩
 ·refine (Load_no t aa al ca cl w hT hv hw hm).mono ?_
  rintro e w' ⟨rfl, b⟩
  exact ⟨_, .slice none 0 0, [], rfl, ((Mem.of_below b).addMany.addNil 39 5), .inr hv⟩
set_option maxRecDepth 100000 in
set_option maxHeartbeats 4000000 in
theorem around_any (bT : Nat) (k0 k1 k2 k3 k4 x0 x1 x2 x3 x4 : Value) (w : World) (h0 : w.cell? ⟨bT, 0, none⟩ = some k0) (h1 : w.cell? ⟨bT, 1, none⟩ = some k1) (h2 : w.cell? ⟨bT, 2, none⟩ = some k2) (h3 : w.cell? ⟨bT, 3, none⟩ = some k3) (h4 : w.cell? ⟨bT, 4, none⟩ = some k4) :
  Calls Tryz.prog 16 #[.agg #[x0, x1, x2, x3, x4], .pointer (some ⟨bT, 0, none⟩)] w fun e w' => ∃ A L, e = .returned (.agg (objCells A L)) ∧
   Mem w w' [cellsR A 28 #[k0, k1, k2, k3, k4, x0, x1, x2, x3, x4], cellsR L 9 #[.string ⟨#[109]⟩, .string ⟨#[110, 101, 120, 116]⟩]] := by
 have M := (((Mem.nil w).allocR #[x0, x1, x2, x3, x4] 28).allocR #[.int .i64 0, .string ⟨#[]⟩, .slice none 0 0, .slice none 0 0, .bool false] 28).allocR #[.string ⟨#[109]⟩, .string ⟨#[110, 101, 120, 116]⟩] 9
 simp only [World.size_alloc] at M
 have b := M.below
 have c0 := cell_below b h0
 have c1 := cell_below b h1
 have c2 := cell_below b h2
 have c3 := cell_below b h3
 have c4 := cell_below b h4
 have z0 := M.cell 2 rfl 0 rfl
 have z1 := M.cell 2 rfl 1 rfl
 have z2 := M.cell 2 rfl 2 rfl
 have z3 := M.cell 2 rfl 3 rfl
 have z4 := M.cell 2 rfl 4 rfl
 have HM := Tre.hid M
 clear M b h0 h1 h2 h3 h4
 go_enter Tryz.func16, Tryz.ntmps16
 go_wp2_with fail
 have MZ := ((((Mem.nil w).allocR #[x0, x1, x2, x3, x4] 28).allocR (objCells (w.heap.size + 1 + 1 + 1) (w.heap.size + 1 + 1)) 28).allocR #[.string ⟨#[109]⟩, .string ⟨#[110, 101, 120, 116]⟩] 9).allocR #[k0, k1, k2, k3, k4, x0, x1, x2, x3, x4] 28
 simp only [World.size_alloc] at MZ
 unfold objCells at MZ
 clear c0 c1 c2 c3 c4 z0 z1 z2 z3 z4 HM
 generalize ((((w.alloc (.cells #[x0, x1, x2, x3, x4] 28)).alloc (.cells #[.int .i64 3, .string ⟨#[]⟩, .slice (some ⟨w.heap.size + 1 + 1 + 1, 0, none⟩) 2 2, .slice (some ⟨w.heap.size + 1 + 1, 0, none⟩) 2 2, .bool false] 28)).alloc (.cells #[.string ⟨#[109]⟩, .string ⟨#[110, 101, 120, 116]⟩] 9)).alloc (.cells #[k0, k1, k2, k3, k4, x0, x1, x2, x3, x4] 28)) = wz at MZ ⊢
 have z0 := MZ.cell 2 rfl 0 rfl
 have z1 := MZ.cell 2 rfl 1 rfl
 have z2 := MZ.cell 2 rfl 2 rfl
 have z3 := MZ.cell 2 rfl 3 rfl
 have z4 := MZ.cell 2 rfl 4 rfl
 refine bodyPost_ret (v := .agg (objCells (w.heap.size + 1 + 1 + 1) (w.heap.size + 1 + 1))) (by simp [results, Tryz.results16, go_sem, z0, z1, z2, z3, z4, objCells]) rfl ?_
 exact ⟨_, _, rfl, MZ.sub (List.Sublist.cons_cons _ (List.Sublist.cons_cons _ (List.nil_sublist _)))⟩
end Go.Proofs.YtljmcmdabdlldaaGreatDoor.load
