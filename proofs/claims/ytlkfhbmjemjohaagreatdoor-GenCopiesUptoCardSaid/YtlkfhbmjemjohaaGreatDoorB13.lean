/- solve: start. -/
import Derived.Test.YtlkfhbmjemjohaaGreatDoorB12
import Derived.Test.YtlkfhbmjemjohaaGreatDoorB06
set_option linter.unusedVariables false
namespace Go.Tre
open Go.RowKit Go.Maps
theorem wp_store_map {α β : Type} [DecidableEq α] {P : Program} {k : TypeId} {ek : α → Value} {ev : β → Value} {w : World} {b n : Nat} {m : α → Option β} {o : Oper} {a : Act} {R : Act → World → Prop} {Q : Exit → Act → World → Prop} (mo xo vo : Operand) (t : TypeId) (hop : o.op = Op.mapUpdate t mo xo vo) (e : TypeId) (K : Keyed P k) (inj : ∀ a a', ek a = ek a' → a = a')
  (ht : P.underlying t = some (.map k e)) (hm : a.eval mo = .map (some b)) (h : MapIs P k ek ev w b n m) (x : α) (hx : a.eval xo = ek x) {l : Lit} (hl : keyOf P k (ek x) = some l) (y : β) (hy : a.eval vo = ev y)
  (hK : ∀ w', MapIs P k ek ev w' b (if (m x).isSome then n else n + 1) (upd m x y) → w.grownBy w' (some b) → R (a.put o.dst undef) w') : o.wp P a w R Q := by
 obtain ⟨w', hrun, r1, r2⟩ := h.run_store K inj ht hl y
 unfold Oper.wp
 simp [execOp, hop, hm, hx, hy, hrun, Result.andThen]
 exact hK w' r1 r2
end Go.Tre
namespace Go.Proofs.YtlkfhbmjemjohaaGreatDoor.sol
open Go.RowKit Go.Shelf Go.Maps Go.MapKept Go.ChangeMaps Go.Tre lex gr
theorem nrowS {w : World} {e : TypeId} {size n c : Nat} {a : Option Addr} {L : List Value} (h : w.ownsRow 0 e size (.slice a n c) n L) : Row w size a n L := by
 obtain ⟨a', c', e, _, r⟩ := row_read h
 cases e
 exact r
theorem infoC : (Tryz.prog.info? 72).map (fun i => (i.zero, i.size, i.bytes)) = some (some (.agg #[.int .i64 0, .string ByteArray.empty, .slice none 0 0, .map none, .bool false]), 5, 64) := by kernel_rfl
theorem range_en (k : Nat) : (List.range (k + 1)).map en = (List.range k).map en ++ [.int .i64 (k : Int)] := by rw [List.range_succ, List.map_append]; rfl
theorem repl_en (k : Nat) : (List.replicate (k + 1) 0).map en = (List.replicate k 0).map en ++ [.int .i64 0] := by rw [List.replicate_succ', List.map_append]; rfl
theorem getD_app_at {l : List ClsV} {c : ClsV} {k : Nat} (h : l.length = k) : (l ++ [c]).getD k zeroC = c := by
 rw [List.getD_eq_getElem?_getD, List.getElem?_append_right (by omega), h, Nat.sub_self]; rfl
theorem getD_app_off {l : List ClsV} {c : ClsV} {k i : Nat} (h : l.length = k) (hi : i < k) : (l ++ [c]).getD i zeroC = l.getD i zeroC := by
 rw [List.getD_eq_getElem?_getD, List.getElem?_append_left (by omega), List.getD_eq_getElem?_getD]
theorem hasCells_more {cs : List ClsV} {c : ClsV} {k : Nat} (h : cs.length = k) : hasCells (cs ++ [c]) (List.range (k + 1)) = hasCells cs (List.range k) ++ c.cells := by
 rw [List.range_succ, hasCells_snoc, getD_app_at h]
 congr 1
 have : ∀ l : List Nat, (∀ i ∈ l, i < k) → hasCells (cs ++ [c]) l = hasCells cs l := by
  intro l hl
  induction l with
  | nil => rfl
  | cons a r ih =>
   have h1 := ih (fun b hb => hl b (by simp [hb]))
   unfold hasCells at h1 ⊢
   rw [List.flatMap_cons, List.flatMap_cons, h1, getD_app_off h (hl a (by simp))]
 exact this _ (fun i hi => List.mem_range.1 hi)
theorem snoc_len {cs : List ClsV} {c : ClsV} {k : Nat} (h : cs.length = k) : Hid ((cs ++ [c]).length = k + 1) := by show _ = _; simp [h]
theorem snoc_ok {w : World} {f : Tre.Graph} {cs : List ClsV} {c : ClsV} {k : Nat} (h : cs.length = k) (hk : ∀ i, i < k → (cs.getD i zeroC).n = f.nd i ∧ ClsOk w (cs.getD i zeroC)) (hx : f.nd k = c.n) (ho : ClsOk w c) : Hid (∀ i, i < k + 1 → ((cs ++ [c]).getD i zeroC).n = f.nd i ∧ ClsOk w ((cs ++ [c]).getD i zeroC)) := by
 intro i hi
 by_cases e : i = k
 ·subst e; rw [getD_app_at h]; exact ⟨hx.symm, ho⟩
 ·rw [getD_app_off h (by omega)]; exact hk i (by omega)
set_option maxRecDepth 100000 in
set_option maxHeartbeats 32000000 in
theorem start_any (b1 o1 ca : Nat) (f : Tre.Graph) (wb w : World) (hbw : Below wb.heap.size wb w) (hg : NodesAt wb (some ⟨b1, o1, none⟩) f.ns) (hmay : ∀ i, i < f.ns.length → MayK (f.nd i)) (hlab : ∀ i, i < f.ns.length → ∀ l ∈ (f.nd i).labels, l.size ≤ 4194304) (hwd : ∀ i, i < f.ns.length → f.deg i ≤ 4194304) (hN : f.ns.length ≤ 4194304) :
  Calls Tryz.prog 23 #[.agg #[.slice (some ⟨b1, o1, none⟩) f.ns.length ca, .int .i64 f.root]] w fun e w' => ∃ (s : Nat) (cs : List ClsV) (aO : Option Addr) (cO : Nat) (aR : Option Addr) (cR : Nat) (aH : Option Addr) (cH : Nat), e = .returned (.pointer (some ⟨s, 0, none⟩)) ∧ cs.length = f.ns.length ∧ (∀ i, i < f.ns.length → (cs.getD i zeroC).n = f.nd i ∧ ClsOk wb (cs.getD i zeroC)) ∧
   Mem w w' [cellsR s 64 #[.slice aO f.ns.length cO, .slice aR f.ns.length cR, .slice aH f.ns.length cH, .slice none 0 0], rowR 3 1 (.slice aO f.ns.length cO) f.ns.length ((List.range f.ns.length).map en), rowR 3 1 (.slice aR f.ns.length cR) f.ns.length ((List.replicate f.ns.length 0).map en), rowR 72 5 (.slice aH f.ns.length cH) f.ns.length (hasCells cs (List.range f.ns.length)), mapsR cs] := by
 have HG := Tre.hid hg
 have HBW := Tre.hid hbw
 have HMY := Tre.hid hmay
 have HLB := Tre.hid hlab
 have HWD := Tre.hid hwd
 have M0 := (((((((Mem.nil w).allocR #[.slice (some ⟨b1, o1, none⟩) f.ns.length ca, .int .i64 f.root] 24).allocR #[.slice none 0 0, .slice none 0 0, .slice none 0 0, .slice none 0 0] 64)))))
 simp only [heapSize_alloc] at M0
 have HM0 := Tre.hid M0
 obtain ⟨ji, K1, K2, K3, K4⟩ := info_parts infoI
 have L1 := Tre.hid K1
 have L2 := Tre.hid K2
 have L3 := Tre.hid K3
 have L4 := Tre.hid K4
 obtain ⟨ci, K1', K2', K3', K4'⟩ := info_parts infoC
 have Q1 := Tre.hid K1'
 have Q2 := Tre.hid K2'
 have Q3 := Tre.hid K3'
 have Q4 := Tre.hid K4'
 clear hg hbw hmay hlab hwd M0 K1 K2 K3 K4 K1' K2' K3' K4'
 go_enter Tryz.func23, Tryz.ntmps23
 go_wp2_with fail
 generalize hz1 : w.heap.size + 1 = s at *
 generalize hz2 : w.heap.size = bg at *
 generalize hww : World.alloc _ _ = w1 at HM0 ⊢
 clear hz1 hz2 hww
 go_loopw [14] (fun v14 wr => ∃ (k : Nat) (cs : List ClsV) (aO : Option Addr) (cO : Nat) (aR : Option Addr) (cR : Nat) (aH : Option Addr) (cH : Nat), k ≤ f.ns.length ∧ v14 = .int .i64 k ∧ Hid (cs.length = k) ∧ Hid (∀ i, i < k → (cs.getD i zeroC).n = f.nd i ∧ ClsOk wb (cs.getD i zeroC)) ∧
  Hid (Mem w wr [cellsR s 64 #[.slice aO k cO, .slice aR k cR, .slice aH k cH, .slice none 0 0], rowR 3 1 (.slice aO k cO) k ((List.range k).map en), rowR 3 1 (.slice aR k cR) k ((List.replicate k 0).map en), rowR 72 5 (.slice aH k cH) k (hasCells cs (List.range k)), cellsR bg 24 #[.slice (some ⟨b1, o1, none⟩) f.ns.length ca, .int .i64 f.root], mapsR cs]))
  (fun v14 _ => f.ns.length - (intOf v14).toNat)
 case atStart => exact ⟨0, [], none, 0, none, 0, none, 0, Nat.zero_le _, rfl, rfl, (fun i hi => absurd hi (by omega)), (by
  have h := HM0.out
  have h1 : Mem w w1 (mapsR [] :: _) := (h.addEmpty).as_ 0 rfl (mapsR []) (fun _ c hc => by cases hc) (fun b hb => by obtain ⟨c, hc, _⟩ := hb; cases hc)
  exact ((((h1.addNil 72 5).addNil 3 1).addNil 3 1).front 4 rfl |> fun z => (z.perm (List.Perm.cons _ (List.Perm.cons _ (List.Perm.cons _ (List.Perm.cons _ (List.Perm.swap _ _ _)))))))) ⟩
 case round =>
 clear HM0
 obtain ⟨k, cs, aO, cO, aR, cR, aH, cH, hk, rfl, HCL, HCK, HM⟩ := hrel
 obtain ⟨g0, g1⟩ := HM.out.two 4 rfl
 by_cases hlt : k < f.ns.length
 ·have i1 : (k : Int) < (f.ns.length : Int) := by omega
  obtain ⟨b', o', e', ax, cx, lx, dx, h0, h1, h2, h3, h4, h5, h6, h7, h8⟩ := HG.out.at_ k (f.nd k) (by rw [Graph.nd_eq hlt, List.getElem?_eq_getElem hlt])
  cases e'
  have hmk := HMY.out k hlt
  have hlk := HLB.out k hlt
  have hdk := HWD.out k hlt
  have hdk' : (f.nd k).args.length ≤ 4194304 := hdk
  generalize hX : f.nd k = X at h0 h1 h2 h3 h4 h5 h6 h7 h8 hmk hlk hdk'
  have HXX : Hid (f.nd k = X) := hX
  have b := HBW.out.trans (HM.out.below.mono HBW.out.size)
  have x0 := cell_below b h0
  have x1 := cell_below b h1
  have x2 := cell_below b h2
  have x3 := cell_below b h3
  have x4 := cell_below b h4
  clear h0 h1 h2 h3 h4 b hX hdk
  rcases hmk.kind with kk | kk | kk
  ·rw [kk] at x0
   have MA := (HM.out.allocR #[.int .i64 1, .string X.name, .slice ax X.args.length cx, .slice lx X.labels.length dx, .bool X.isOpen] 40).allocR #[.int .i64 1, .string X.name, .slice none 0 0, .map none, .bool X.isOpen] 72
   simp only [heapSize_alloc] at MA
   have HQ := Tre.hid ((((((((((mapsR_skip (c := ⟨X, none, 0, 0, none, 0⟩) (MA.front 7 rfl) (by show X.kind ≠ 3; omega)).front 0 rfl).front 7 rfl).front 3 rfl).front 7 rfl).front 7 rfl).front 7 rfl).front 7 rfl).front 7 rfl))
   have HKK := Tre.hid kk
   clear MA HM kk
   go_wp2_with fail
   generalize hz1 : wr.heap.size + 1 = bc at *
   generalize hz2 : wr.heap.size = bn at *
   generalize hww : World.alloc _ _ = w2 at HQ ⊢
   clear hz1 hz2 hww g0 g1 x0 x1 x2 x3 x4
   have HOK : Hid (ClsOk wb ⟨X, none, 0, 0, none, 0⟩) := ⟨fun _ => ⟨rfl, rfl, rfl, rfl⟩, fun h => absurd (h.symm.trans HKK.out) (by omega), fun h => absurd (h.symm.trans HKK.out) (by omega)⟩
   have cS : Cond (fun w' => w'.cell? ⟨s, 0, none⟩ = some (.slice aO k cO) ∧ w'.cell? ⟨s, 1, none⟩ = some (.slice aR k cR) ∧ w'.cell? ⟨s, 2, none⟩ = some (.slice aH k cH) ∧ w'.cell? ⟨bc, 0, none⟩ = some (.int .i64 1) ∧ w'.cell? ⟨bc, 1, none⟩ = some (.string X.name) ∧ w'.cell? ⟨bc, 2, none⟩ = some (.slice none 0 0) ∧ w'.cell? ⟨bc, 3, none⟩ = some (.map none) ∧ w'.cell? ⟨bc, 4, none⟩ = some (.bool X.isOpen)) := ⟨⟩
   refine cS.keep [22, 25, 28, 31] ?_ (fun hH => ?_)
   ·exact ⟨HQ.out.cell 1 rfl 0 rfl, HQ.out.cell 1 rfl 1 rfl, HQ.out.cell 1 rfl 2 rfl, HQ.out.cell 0 rfl 0 rfl, HQ.out.cell 0 rfl 1 rfl, HQ.out.cell 0 rfl 2 rfl, HQ.out.cell 0 rfl 3 rfl, HQ.out.cell 0 rfl 4 rfl⟩
   have HC := Tre.hid HQ.out.drew
   generalize hq : World.drew _ = wq0 at HC hH ⊢
   clear hq HQ
   refine lPv 0 (some 54) (.pointer (some ⟨s, 0, none⟩)) (keep_of hH) ?_
   refine lPv 1 (some 55) (.pointer (some ⟨s, 0, none⟩)) (keep_of hH) ?_
   refine lPv 2 (some 56) (.pointer (some ⟨s, 0, none⟩)) (keep_of hH) ?_
   refine lPv 3 (some 57) (.pointer (some ⟨s, 0, none⟩)) (keep_of hH) ?_
   refine lPv 4 (some 58) (.pointer (some ⟨s, 0, none⟩)) (keep_of hH) ?_
   refine lPv 5 (some 59) (.pointer (some ⟨s, 0, none⟩)) (keep_of hH) ?_
   try simp only [Act.put, zqf, zqg, zqh]
   refine lTq 6 (some 60) (v := ?_) rfl ?_ hH ?_
   rotate_left
   ·intro w hSw; (try dsimp only at hSw); go_simp <;> with_reducible rfl
   try simp only [Act.put, zqf, zqg, zqh]
   refine lPv 7 (some 61) (.int .i64 (k : Int)) (keep_of hH) ?_
   refine lPv 10 (some 64) (.pointer (some ⟨s, 0, none⟩)) (keep_of hH) ?_
   refine lPv 11 (some 65) (.pointer (some ⟨s, 0, none⟩)) (keep_of hH) ?_
   refine lPv 12 (some 66) (.pointer (some ⟨s, 1, none⟩)) (keep_of hH) ?_
   try simp only [Act.put, zqf, zqg, zqh]
   refine lTq 13 (some 67) (v := ?_) rfl ?_ hH ?_
   rotate_left
   ·intro w hSw; (try dsimp only at hSw); go_simp <;> with_reducible rfl
   try simp only [Act.put, zqf, zqg, zqh]
   refine lPv 16 (some 70) (.pointer (some ⟨s, 0, none⟩)) (keep_of hH) ?_
   refine lPv 17 (some 71) (.pointer (some ⟨s, 0, none⟩)) (keep_of hH) ?_
   refine lPv 18 (some 72) (.pointer (some ⟨s, 2, none⟩)) (keep_of hH) ?_
   try simp only [Act.put, zqf, zqg, zqh]
   refine lTq 19 (some 73) (v := ?_) rfl ?_ hH ?_
   rotate_left
   ·intro w hSw; (try dsimp only at hSw); go_simp <;> with_reducible rfl
   try simp only [Act.put, zqf, zqg, zqh]
   try simp only [Act.put, zqf, zqg, zqh]
   refine lTq 20 (some 74) (v := ?_) rfl ?_ hH ?_
   rotate_left
   ·intro w hSw; (try dsimp only at hSw); go_simp <;> with_reducible rfl
   try simp only [Act.put, zqf, zqg, zqh]
   try simp only [Act.put, zqf, zqg, zqh]
   refine with_G (G0 := wpAnyL _ _ _ _ _ _) ?_
   intro G hG a0 hA
   have Z0 : Kept (∀ (b62 : Nat) (b68 : Nat) (b75 : Nat) (a63 : Option Addr) (c63 : Nat) (a69 : Option Addr) (c69 : Nat) (a76 : Option Addr) (c76 : Nat) (wq : World), Hid (Mem w wq [cellsR bc 72 #[.int .i64 1, .string X.name, .slice none 0 0, .map none, .bool X.isOpen], cellsR s 64 #[.slice a63 (k + 1) c63, .slice a69 (k + 1) c69, .slice a76 (k + 1) c76, .slice none 0 0], rowR 3 1 (.slice a63 (k + 1) c63) (k + 1) (((List.range k).map en) ++ [.int .i64 (k : Int)]), rowR 3 1 (.slice a69 (k + 1) c69) (k + 1) (((List.replicate k 0).map en) ++ [.int .i64 0]), rowR 72 5 (.slice a76 (k + 1) c76) (k + 1) ((hasCells cs (List.range k)) ++ [.int .i64 1, .string X.name, .slice none 0 0, .map none, .bool X.isOpen]), cellsR bn 40 #[.int .i64 1, .string X.name, .slice ax X.args.length cx, .slice lx X.labels.length dx, .bool X.isOpen], cellsR bg 24 #[.slice (some ⟨b1, o1, none⟩) f.ns.length ca, .int .i64 f.root], mapsR (cs ++ [⟨X, none, 0, 0, none, 0⟩])]) → G 0 (bt 32 4294967295) ((((((((((((a0.put (some 62) (.slice (some ⟨b62, 0, none⟩) 1 1)).put (some 63) (.slice a63 (k + 1) c63)).put (some 68) (.slice (some ⟨b68, 0, none⟩) 1 1)).put (some 69) (.slice a69 (k + 1) c69)).put (some 75) (.slice (some ⟨b75, 0, none⟩) 1 1)).put (some 76) (.slice a76 (k + 1) c76)).put (some 77) (.pointer (some ⟨s, 0, none⟩))).put (some 78) (.pointer (some ⟨s, 0, none⟩))).put (some 79) (.pointer (some ⟨s, 0, none⟩))).put (some 80) (.pointer (some ⟨s, 1, none⟩))).put (some 81) (.pointer (some ⟨s, 0, none⟩))).put (some 82) (.pointer (some ⟨s, 2, none⟩))) wq) := ⟨by
    intro b62 b68 b75 a63 c63 a69 c69 a76 c76 wq HC
    refine into_G hG ?_
    rw [hA.out]
    try simp only [Act.put, zqf, zqg, zqh]
    refine lDone (by kernel_rfl) ?_
    clear hA hG
    go_wp2_with fail
    go_roundw
    case rel =>
     refine ⟨k + 1, cs ++ [⟨X, none, 0, 0, none, 0⟩], a63, c63, a69, c69, a76, c76, by omega, by go_num, snoc_len HCL.out, snoc_ok HCL.out HCK.out HXX.out HOK.out, ?_⟩
     have h := (HC.out.del 0).del 4
     show Mem _ _ _
     rw [range_en, repl_en, hasCells_more HCL.out, show (⟨X, none, 0, 0, none, 0⟩ : ClsV).cells = [.int .i64 1, .string X.name, .slice none 0 0, .map none, .bool X.isOpen] by simp only [ClsV.cells, HKK.out]]
     exact h
    case measure => simp [intOf]; omega
   ⟩
   have Z1 : Kept (∀ (b62 : Nat) (b68 : Nat) (b75 : Nat) (a63 : Option Addr) (c63 : Nat) (a69 : Option Addr) (c69 : Nat) (a76 : Option Addr) (c76 : Nat) (wq : World), Hid (Mem w wq [cellsR bc 72 #[.int .i64 1, .string X.name, .slice none 0 0, .map none, .bool X.isOpen], cellsR s 64 #[.slice a63 (k + 1) c63, .slice a69 (k + 1) c69, .slice aH k cH, .slice none 0 0], rowR 3 1 (.slice a63 (k + 1) c63) (k + 1) (((List.range k).map en) ++ [.int .i64 (k : Int)]), rowR 3 1 (.slice a69 (k + 1) c69) (k + 1) (((List.replicate k 0).map en) ++ [.int .i64 0]), rowR 72 5 (.slice a76 (k + 1) c76) (k + 1) ((hasCells cs (List.range k)) ++ [.int .i64 1, .string X.name, .slice none 0 0, .map none, .bool X.isOpen]), cellsR bn 40 #[.int .i64 1, .string X.name, .slice ax X.args.length cx, .slice lx X.labels.length dx, .bool X.isOpen], cellsR bg 24 #[.slice (some ⟨b1, o1, none⟩) f.ns.length ca, .int .i64 f.root], mapsR (cs ++ [⟨X, none, 0, 0, none, 0⟩])]) → G 1 (bt 32 2147483647) ((((((((((((a0.put (some 62) (.slice (some ⟨b62, 0, none⟩) 1 1)).put (some 63) (.slice a63 (k + 1) c63)).put (some 68) (.slice (some ⟨b68, 0, none⟩) 1 1)).put (some 69) (.slice a69 (k + 1) c69)).put (some 75) (.slice (some ⟨b75, 0, none⟩) 1 1)).put (some 76) (.slice a76 (k + 1) c76)).put (some 77) (.pointer (some ⟨s, 0, none⟩))).put (some 78) (.pointer (some ⟨s, 0, none⟩))).put (some 79) (.pointer (some ⟨s, 0, none⟩))).put (some 80) (.pointer (some ⟨s, 1, none⟩))).put (some 81) (.pointer (some ⟨s, 0, none⟩))).put (some 82) (.pointer (some ⟨s, 2, none⟩))) wq) := ⟨by
    intro b62 b68 b75 a63 c63 a69 c69 a76 c76 wq HC
    refine into_G hG ?_
    rw [hA.out]
    try simp only [Act.put, zqf, zqg, zqh]
    refine lOne 31 (by kernel_rfl) ?_
    ·
     refine (LFall.op (by kernel_rfl) (fun K hK => ?_))
     have z0 := HC.out.free 1 rfl 2
     have y0 := HC.out.cell 1 rfl 2 rfl
     have HN := Tre.hid (HC.out.setCell 1 rfl 2 (.slice a76 (k + 1) c76))
     go_simp
     clear z0 y0
     generalize hw : wq.setCell ⟨s, 2, none⟩ _ = wr at HN ⊢
     clear hw
     refine hK.out _ _ ?_
     exact outof_G hG (Z0.out b62 b68 b75 a63 c63 a69 c69 a76 c76 wr HN) (by kernel_rfl) (by rw [hA.out]; try kernel_rfl)
   ⟩
   have Z2 : Kept (∀ (b62 : Nat) (b68 : Nat) (b75 : Nat) (a63 : Option Addr) (c63 : Nat) (a69 : Option Addr) (c69 : Nat) (a76 : Option Addr) (c76 : Nat) (wq : World), Hid (Mem w wq [cellsR bc 72 #[.int .i64 1, .string X.name, .slice none 0 0, .map none, .bool X.isOpen], cellsR s 64 #[.slice a63 (k + 1) c63, .slice aR k cR, .slice aH k cH, .slice none 0 0], rowR 3 1 (.slice a63 (k + 1) c63) (k + 1) (((List.range k).map en) ++ [.int .i64 (k : Int)]), rowR 3 1 (.slice a69 (k + 1) c69) (k + 1) (((List.replicate k 0).map en) ++ [.int .i64 0]), rowR 72 5 (.slice a76 (k + 1) c76) (k + 1) ((hasCells cs (List.range k)) ++ [.int .i64 1, .string X.name, .slice none 0 0, .map none, .bool X.isOpen]), cellsR bn 40 #[.int .i64 1, .string X.name, .slice ax X.args.length cx, .slice lx X.labels.length dx, .bool X.isOpen], cellsR bg 24 #[.slice (some ⟨b1, o1, none⟩) f.ns.length ca, .int .i64 f.root], mapsR (cs ++ [⟨X, none, 0, 0, none, 0⟩])]) → G 4 (bt 32 268435455) ((((((((((a0.put (some 62) (.slice (some ⟨b62, 0, none⟩) 1 1)).put (some 63) (.slice a63 (k + 1) c63)).put (some 68) (.slice (some ⟨b68, 0, none⟩) 1 1)).put (some 69) (.slice a69 (k + 1) c69)).put (some 75) (.slice (some ⟨b75, 0, none⟩) 1 1)).put (some 76) (.slice a76 (k + 1) c76)).put (some 77) (.pointer (some ⟨s, 0, none⟩))).put (some 78) (.pointer (some ⟨s, 0, none⟩))).put (some 79) (.pointer (some ⟨s, 0, none⟩))).put (some 80) (.pointer (some ⟨s, 1, none⟩))) wq) := ⟨by
    intro b62 b68 b75 a63 c63 a69 c69 a76 c76 wq HC
    refine into_G hG ?_
    rw [hA.out]
    try simp only [Act.put, zqf, zqg, zqh]
    refine lOne 28 (by kernel_rfl) ?_
    ·
     refine (LFall.op (by kernel_rfl) (fun K hK => ?_))
     have z0 := HC.out.free 1 rfl 1
     have y0 := HC.out.cell 1 rfl 1 rfl
     have HN := Tre.hid (HC.out.setCell 1 rfl 1 (.slice a69 (k + 1) c69))
     go_simp
     clear z0 y0
     generalize hw : wq.setCell ⟨s, 1, none⟩ _ = wr at HN ⊢
     clear hw
     refine hK.out _ _ ?_
     refine lPv 29 (some 81) (.pointer (some ⟨s, 0, none⟩)) (keep_fell (by kernel_rfl)) ?_
     refine lPv 30 (some 82) (.pointer (some ⟨s, 2, none⟩)) (keep_fell (by kernel_rfl)) ?_
     exact outof_G hG (Z1.out b62 b68 b75 a63 c63 a69 c69 a76 c76 wr HN) (by kernel_rfl) (by rw [hA.out]; try kernel_rfl)
   ⟩
   have Z3 : Kept (∀ (b62 : Nat) (b68 : Nat) (b75 : Nat) (a63 : Option Addr) (c63 : Nat) (a69 : Option Addr) (c69 : Nat) (a76 : Option Addr) (c76 : Nat) (wq : World), Hid (Mem w wq [cellsR bc 72 #[.int .i64 1, .string X.name, .slice none 0 0, .map none, .bool X.isOpen], cellsR s 64 #[.slice aO k cO, .slice aR k cR, .slice aH k cH, .slice none 0 0], rowR 3 1 (.slice a63 (k + 1) c63) (k + 1) (((List.range k).map en) ++ [.int .i64 (k : Int)]), rowR 3 1 (.slice a69 (k + 1) c69) (k + 1) (((List.replicate k 0).map en) ++ [.int .i64 0]), rowR 72 5 (.slice a76 (k + 1) c76) (k + 1) ((hasCells cs (List.range k)) ++ [.int .i64 1, .string X.name, .slice none 0 0, .map none, .bool X.isOpen]), cellsR bn 40 #[.int .i64 1, .string X.name, .slice ax X.args.length cx, .slice lx X.labels.length dx, .bool X.isOpen], cellsR bg 24 #[.slice (some ⟨b1, o1, none⟩) f.ns.length ca, .int .i64 f.root], mapsR (cs ++ [⟨X, none, 0, 0, none, 0⟩])]) → G 7 (bt 32 33554431) ((((((((a0.put (some 62) (.slice (some ⟨b62, 0, none⟩) 1 1)).put (some 63) (.slice a63 (k + 1) c63)).put (some 68) (.slice (some ⟨b68, 0, none⟩) 1 1)).put (some 69) (.slice a69 (k + 1) c69)).put (some 75) (.slice (some ⟨b75, 0, none⟩) 1 1)).put (some 76) (.slice a76 (k + 1) c76)).put (some 77) (.pointer (some ⟨s, 0, none⟩))).put (some 78) (.pointer (some ⟨s, 0, none⟩))) wq) := ⟨by
    intro b62 b68 b75 a63 c63 a69 c69 a76 c76 wq HC
    refine into_G hG ?_
    rw [hA.out]
    try simp only [Act.put, zqf, zqg, zqh]
    refine lOne 25 (by kernel_rfl) ?_
    ·
     refine (LFall.op (by kernel_rfl) (fun K hK => ?_))
     have z0 := HC.out.free 1 rfl 0
     have y0 := HC.out.cell 1 rfl 0 rfl
     have HN := Tre.hid (HC.out.setCell 1 rfl 0 (.slice a63 (k + 1) c63))
     go_simp
     clear z0 y0
     generalize hw : wq.setCell ⟨s, 0, none⟩ _ = wr at HN ⊢
     clear hw
     refine hK.out _ _ ?_
     refine lPv 26 (some 79) (.pointer (some ⟨s, 0, none⟩)) (keep_fell (by kernel_rfl)) ?_
     refine lPv 27 (some 80) (.pointer (some ⟨s, 1, none⟩)) (keep_fell (by kernel_rfl)) ?_
     exact outof_G hG (Z2.out b62 b68 b75 a63 c63 a69 c69 a76 c76 wr HN) (by kernel_rfl) (by rw [hA.out]; try kernel_rfl)
   ⟩
   have Z4 : Kept (∀ (b62 : Nat) (b68 : Nat) (b75 : Nat) (a63 : Option Addr) (c63 : Nat) (a69 : Option Addr) (c69 : Nat) (wq : World), Hid (Mem w wq [rowR 72 5 (.slice (some ⟨b75, 0, none⟩) 1 1) 1 [.int .i64 1, .string X.name, .slice none 0 0, .map none, .bool X.isOpen], cellsR bc 72 #[.int .i64 1, .string X.name, .slice none 0 0, .map none, .bool X.isOpen], cellsR s 64 #[.slice aO k cO, .slice aR k cR, .slice aH k cH, .slice none 0 0], rowR 3 1 (.slice a63 (k + 1) c63) (k + 1) (((List.range k).map en) ++ [.int .i64 (k : Int)]), rowR 3 1 (.slice a69 (k + 1) c69) (k + 1) (((List.replicate k 0).map en) ++ [.int .i64 0]), rowR 72 5 (.slice aH k cH) k (hasCells cs (List.range k)), cellsR bn 40 #[.int .i64 1, .string X.name, .slice ax X.args.length cx, .slice lx X.labels.length dx, .bool X.isOpen], cellsR bg 24 #[.slice (some ⟨b1, o1, none⟩) f.ns.length ca, .int .i64 f.root], mapsR (cs ++ [⟨X, none, 0, 0, none, 0⟩])]) → G 10 (bt 32 4194303) (((((a0.put (some 62) (.slice (some ⟨b62, 0, none⟩) 1 1)).put (some 63) (.slice a63 (k + 1) c63)).put (some 68) (.slice (some ⟨b68, 0, none⟩) 1 1)).put (some 69) (.slice a69 (k + 1) c69)).put (some 75) (.slice (some ⟨b75, 0, none⟩) 1 1)) wq) := ⟨by
    intro b62 b68 b75 a63 c63 a69 c69 wq HC
    refine into_G hG ?_
    rw [hA.out]
    have hH := cS.is (w := wq) (⟨HC.out.cell 2 rfl 0 rfl, HC.out.cell 2 rfl 1 rfl, HC.out.cell 2 rfl 2 rfl, HC.out.cell 1 rfl 0 rfl, HC.out.cell 1 rfl 1 rfl, HC.out.cell 1 rfl 2 rfl, HC.out.cell 1 rfl 3 rfl, HC.out.cell 1 rfl 4 rfl⟩)
    refine lOne 22 (by kernel_rfl) ?_
    ·
     refine LFall.app (by kernel_rfl) (some 76) (.tmp 73) (.tmp 75) 62 (by kernel_rfl) 72 ci _ 5 64 Tryz.underlying62 Q1.out Q2.out Q3.out Q4.out rfl (by omega) (.slice aH k cH) k (hasCells cs (List.range k)) (by kernel_rfl) (HC.out.row 5 rfl) (some ⟨b75, 0, none⟩) 1 1 [.int .i64 1, .string X.name, .slice none 0 0, .map none, .bool X.isOpen] (by kernel_rfl) (nrowS (HC.out.row 0 rfl)) (by simp [Value.oneCell']) (by unfold maxLen; omega) (by omega) ?_
     intro v' wr hown4 hgrow4 hat4
     have M4 := HC.out.grow 5 rfl hgrow4 hown4 hat4
     obtain ⟨a76, c76, rfl, _⟩ := M4.val 5 rfl
     have HN := Tre.hid (M4.del 0)
     clear M4 hown4 hgrow4 hat4
     refine lPv 23 (some 77) (.pointer (some ⟨s, 0, none⟩)) (keep_fell (by kernel_rfl)) ?_
     refine lPv 24 (some 78) (.pointer (some ⟨s, 0, none⟩)) (keep_fell (by kernel_rfl)) ?_
     exact outof_G hG (Z3.out b62 b68 b75 a63 c63 a69 c69 a76 c76 wr HN) (by kernel_rfl) (by rw [hA.out]; try kernel_rfl)
   ⟩
   have Z5 : Kept (∀ (b62 : Nat) (b68 : Nat) (a63 : Option Addr) (c63 : Nat) (a69 : Option Addr) (c69 : Nat) (wq : World), Hid (Mem w wq [cellsR bc 72 #[.int .i64 1, .string X.name, .slice none 0 0, .map none, .bool X.isOpen], cellsR s 64 #[.slice aO k cO, .slice aR k cR, .slice aH k cH, .slice none 0 0], rowR 3 1 (.slice a63 (k + 1) c63) (k + 1) (((List.range k).map en) ++ [.int .i64 (k : Int)]), rowR 3 1 (.slice a69 (k + 1) c69) (k + 1) (((List.replicate k 0).map en) ++ [.int .i64 0]), rowR 72 5 (.slice aH k cH) k (hasCells cs (List.range k)), cellsR bn 40 #[.int .i64 1, .string X.name, .slice ax X.args.length cx, .slice lx X.labels.length dx, .bool X.isOpen], cellsR bg 24 #[.slice (some ⟨b1, o1, none⟩) f.ns.length ca, .int .i64 f.root], mapsR (cs ++ [⟨X, none, 0, 0, none, 0⟩])]) → G 11 (bt 32 2097151) ((((a0.put (some 62) (.slice (some ⟨b62, 0, none⟩) 1 1)).put (some 63) (.slice a63 (k + 1) c63)).put (some 68) (.slice (some ⟨b68, 0, none⟩) 1 1)).put (some 69) (.slice a69 (k + 1) c69)) wq) := ⟨by
    intro b62 b68 a63 c63 a69 c69 wq HC
    refine into_G hG ?_
    rw [hA.out]
    have hH := cS.is (w := wq) (⟨HC.out.cell 1 rfl 0 rfl, HC.out.cell 1 rfl 1 rfl, HC.out.cell 1 rfl 2 rfl, HC.out.cell 0 rfl 0 rfl, HC.out.cell 0 rfl 1 rfl, HC.out.cell 0 rfl 2 rfl, HC.out.cell 0 rfl 3 rfl, HC.out.cell 0 rfl 4 rfl⟩)
    refine lOne 21 (by kernel_rfl) ?_
    ·
     have HN := Tre.hid (HC.out.allocRow #[.int .i64 1, .string X.name, .slice none 0 0, .map none, .bool X.isOpen] 72 5 1 (by unfold maxLen; omega) rfl)
     have hH2 := cS.is (w := (wq.alloc (.cells #[.int .i64 1, .string X.name, .slice none 0 0, .map none, .bool X.isOpen] 72))) (⟨HN.out.cell 2 rfl 0 rfl, HN.out.cell 2 rfl 1 rfl, HN.out.cell 2 rfl 2 rfl, HN.out.cell 1 rfl 0 rfl, HN.out.cell 1 rfl 1 rfl, HN.out.cell 1 rfl 2 rfl, HN.out.cell 1 rfl 3 rfl, HN.out.cell 1 rfl 4 rfl⟩)
     refine LStep.made (some 75) (.slice (some ⟨wq.heap.size, 0, none⟩) 1 1) _ (by kernel_rfl) (by kernel_rfl) hH2 ?_
     exact outof_G hG (Z4.out b62 b68 wq.heap.size a63 c63 a69 c69 _ HN) (by kernel_rfl) (by rw [hA.out]; try kernel_rfl)
   ⟩
   have Z6 : Kept (∀ (b62 : Nat) (b68 : Nat) (b75 : Nat) (a63 : Option Addr) (c63 : Nat) (wq : World), Hid (Mem w wq [rowR 3 1 (.slice (some ⟨b68, 0, none⟩) 1 1) 1 [.int .i64 0], rowR 72 5 (.slice (some ⟨b75, 0, none⟩) 1 1) 1 [.int .i64 1, .string X.name, .slice none 0 0, .map none, .bool X.isOpen], cellsR bc 72 #[.int .i64 1, .string X.name, .slice none 0 0, .map none, .bool X.isOpen], cellsR s 64 #[.slice aO k cO, .slice aR k cR, .slice aH k cH, .slice none 0 0], rowR 3 1 (.slice a63 (k + 1) c63) (k + 1) (((List.range k).map en) ++ [.int .i64 (k : Int)]), rowR 3 1 (.slice aR k cR) k ((List.replicate k 0).map en), rowR 72 5 (.slice aH k cH) k (hasCells cs (List.range k)), cellsR bn 40 #[.int .i64 1, .string X.name, .slice ax X.args.length cx, .slice lx X.labels.length dx, .bool X.isOpen], cellsR bg 24 #[.slice (some ⟨b1, o1, none⟩) f.ns.length ca, .int .i64 f.root], mapsR (cs ++ [⟨X, none, 0, 0, none, 0⟩])]) → G 11 (bt 32 4161535) ((((a0.put (some 62) (.slice (some ⟨b62, 0, none⟩) 1 1)).put (some 63) (.slice a63 (k + 1) c63)).put (some 68) (.slice (some ⟨b68, 0, none⟩) 1 1)).put (some 75) (.slice (some ⟨b75, 0, none⟩) 1 1)) wq) := ⟨by
    intro b62 b68 b75 a63 c63 wq HC
    refine into_G hG ?_
    rw [hA.out]
    have hH := cS.is (w := wq) (⟨HC.out.cell 3 rfl 0 rfl, HC.out.cell 3 rfl 1 rfl, HC.out.cell 3 rfl 2 rfl, HC.out.cell 2 rfl 0 rfl, HC.out.cell 2 rfl 1 rfl, HC.out.cell 2 rfl 2 rfl, HC.out.cell 2 rfl 3 rfl, HC.out.cell 2 rfl 4 rfl⟩)
    refine lOne 15 (by kernel_rfl) ?_
    ·
     refine LStep.app (some 69) (.tmp 67) (.tmp 68) 31 (by kernel_rfl) 3 ji _ 1 8 Tryz.underlying31 L1.out L2.out L3.out L4.out rfl (by omega) (.slice aR k cR) k ((List.replicate k 0).map en) (by kernel_rfl) (HC.out.row 5 rfl) (some ⟨b68, 0, none⟩) 1 1 [.int .i64 0] (by kernel_rfl) (nrowS (HC.out.row 0 rfl)) (by simp [Value.oneCell']) (by unfold maxLen; omega) (by omega) ?_
     intro v' wr hown4 hgrow4 hat4
     have M4 := HC.out.grow 5 rfl hgrow4 hown4 hat4
     obtain ⟨a69, c69, rfl, _⟩ := M4.val 5 rfl
     have HN := Tre.hid (M4.del 0)
     clear M4 hown4 hgrow4 hat4
     refine ⟨⟨HN.out.cell 2 rfl 0 rfl, HN.out.cell 2 rfl 1 rfl, HN.out.cell 2 rfl 2 rfl, HN.out.cell 1 rfl 0 rfl, HN.out.cell 1 rfl 1 rfl, HN.out.cell 1 rfl 2 rfl, HN.out.cell 1 rfl 3 rfl, HN.out.cell 1 rfl 4 rfl⟩, fun hH2 => ?_⟩
     exact outof_G hG (Z4.out b62 b68 b75 a63 c63 a69 c69 wr HN) (by kernel_rfl) (by rw [hA.out]; try kernel_rfl)
   ⟩
   have Z7 : Kept (∀ (b62 : Nat) (b68 : Nat) (a63 : Option Addr) (c63 : Nat) (wq : World), Hid (Mem w wq [rowR 3 1 (.slice (some ⟨b68, 0, none⟩) 1 1) 1 [.int .i64 0], cellsR bc 72 #[.int .i64 1, .string X.name, .slice none 0 0, .map none, .bool X.isOpen], cellsR s 64 #[.slice aO k cO, .slice aR k cR, .slice aH k cH, .slice none 0 0], rowR 3 1 (.slice a63 (k + 1) c63) (k + 1) (((List.range k).map en) ++ [.int .i64 (k : Int)]), rowR 3 1 (.slice aR k cR) k ((List.replicate k 0).map en), rowR 72 5 (.slice aH k cH) k (hasCells cs (List.range k)), cellsR bn 40 #[.int .i64 1, .string X.name, .slice ax X.args.length cx, .slice lx X.labels.length dx, .bool X.isOpen], cellsR bg 24 #[.slice (some ⟨b1, o1, none⟩) f.ns.length ca, .int .i64 f.root], mapsR (cs ++ [⟨X, none, 0, 0, none, 0⟩])]) → G 12 (bt 32 2064383) (((a0.put (some 62) (.slice (some ⟨b62, 0, none⟩) 1 1)).put (some 63) (.slice a63 (k + 1) c63)).put (some 68) (.slice (some ⟨b68, 0, none⟩) 1 1)) wq) := ⟨by
    intro b62 b68 a63 c63 wq HC
    refine into_G hG ?_
    rw [hA.out]
    have hH := cS.is (w := wq) (⟨HC.out.cell 2 rfl 0 rfl, HC.out.cell 2 rfl 1 rfl, HC.out.cell 2 rfl 2 rfl, HC.out.cell 1 rfl 0 rfl, HC.out.cell 1 rfl 1 rfl, HC.out.cell 1 rfl 2 rfl, HC.out.cell 1 rfl 3 rfl, HC.out.cell 1 rfl 4 rfl⟩)
    refine lTwo 15 21 (by kernel_rfl) ?_ ?_
    ·
     refine LStep.app (some 69) (.tmp 67) (.tmp 68) 31 (by kernel_rfl) 3 ji _ 1 8 Tryz.underlying31 L1.out L2.out L3.out L4.out rfl (by omega) (.slice aR k cR) k ((List.replicate k 0).map en) (by kernel_rfl) (HC.out.row 4 rfl) (some ⟨b68, 0, none⟩) 1 1 [.int .i64 0] (by kernel_rfl) (nrowS (HC.out.row 0 rfl)) (by simp [Value.oneCell']) (by unfold maxLen; omega) (by omega) ?_
     intro v' wr hown4 hgrow4 hat4
     have M4 := HC.out.grow 4 rfl hgrow4 hown4 hat4
     obtain ⟨a69, c69, rfl, _⟩ := M4.val 4 rfl
     have HN := Tre.hid (M4.del 0)
     clear M4 hown4 hgrow4 hat4
     refine ⟨⟨HN.out.cell 1 rfl 0 rfl, HN.out.cell 1 rfl 1 rfl, HN.out.cell 1 rfl 2 rfl, HN.out.cell 0 rfl 0 rfl, HN.out.cell 0 rfl 1 rfl, HN.out.cell 0 rfl 2 rfl, HN.out.cell 0 rfl 3 rfl, HN.out.cell 0 rfl 4 rfl⟩, fun hH2 => ?_⟩
     exact outof_G hG (Z5.out b62 b68 a63 c63 a69 c69 wr HN) (by kernel_rfl) (by rw [hA.out]; try kernel_rfl)
    ·
     have HN := Tre.hid (HC.out.allocRow #[.int .i64 1, .string X.name, .slice none 0 0, .map none, .bool X.isOpen] 72 5 1 (by unfold maxLen; omega) rfl)
     have HC := Tre.hid ((HN.out.front 0 rfl).front 1 rfl)
     clear HN
     have hH2 := cS.is (w := (wq.alloc (.cells #[.int .i64 1, .string X.name, .slice none 0 0, .map none, .bool X.isOpen] 72))) (⟨HC.out.cell 3 rfl 0 rfl, HC.out.cell 3 rfl 1 rfl, HC.out.cell 3 rfl 2 rfl, HC.out.cell 2 rfl 0 rfl, HC.out.cell 2 rfl 1 rfl, HC.out.cell 2 rfl 2 rfl, HC.out.cell 2 rfl 3 rfl, HC.out.cell 2 rfl 4 rfl⟩)
     refine LStep.made (some 75) (.slice (some ⟨wq.heap.size, 0, none⟩) 1 1) _ (by kernel_rfl) (by kernel_rfl) hH2 ?_
     exact outof_G hG (Z6.out b62 b68 wq.heap.size a63 c63 _ HC) (by kernel_rfl) (by rw [hA.out]; try kernel_rfl)
   ⟩
   have Z8 : Kept (∀ (b62 : Nat) (b75 : Nat) (a63 : Option Addr) (c63 : Nat) (wq : World), Hid (Mem w wq [rowR 72 5 (.slice (some ⟨b75, 0, none⟩) 1 1) 1 [.int .i64 1, .string X.name, .slice none 0 0, .map none, .bool X.isOpen], cellsR bc 72 #[.int .i64 1, .string X.name, .slice none 0 0, .map none, .bool X.isOpen], cellsR s 64 #[.slice aO k cO, .slice aR k cR, .slice aH k cH, .slice none 0 0], rowR 3 1 (.slice a63 (k + 1) c63) (k + 1) (((List.range k).map en) ++ [.int .i64 (k : Int)]), rowR 3 1 (.slice aR k cR) k ((List.replicate k 0).map en), rowR 72 5 (.slice aH k cH) k (hasCells cs (List.range k)), cellsR bn 40 #[.int .i64 1, .string X.name, .slice ax X.args.length cx, .slice lx X.labels.length dx, .bool X.isOpen], cellsR bg 24 #[.slice (some ⟨b1, o1, none⟩) f.ns.length ca, .int .i64 f.root], mapsR (cs ++ [⟨X, none, 0, 0, none, 0⟩])]) → G 12 (bt 32 4145151) (((a0.put (some 62) (.slice (some ⟨b62, 0, none⟩) 1 1)).put (some 63) (.slice a63 (k + 1) c63)).put (some 75) (.slice (some ⟨b75, 0, none⟩) 1 1)) wq) := ⟨by
    intro b62 b75 a63 c63 wq HC
    refine into_G hG ?_
    rw [hA.out]
    have hH := cS.is (w := wq) (⟨HC.out.cell 2 rfl 0 rfl, HC.out.cell 2 rfl 1 rfl, HC.out.cell 2 rfl 2 rfl, HC.out.cell 1 rfl 0 rfl, HC.out.cell 1 rfl 1 rfl, HC.out.cell 1 rfl 2 rfl, HC.out.cell 1 rfl 3 rfl, HC.out.cell 1 rfl 4 rfl⟩)
    refine lOne 14 (by kernel_rfl) ?_
    ·
     have HN := Tre.hid (HC.out.allocRow #[.int .i64 0] 3 1 1 (by unfold maxLen; omega) rfl)
     have hH2 := cS.is (w := (wq.alloc (.cells #[.int .i64 0] 3))) (⟨HN.out.cell 3 rfl 0 rfl, HN.out.cell 3 rfl 1 rfl, HN.out.cell 3 rfl 2 rfl, HN.out.cell 2 rfl 0 rfl, HN.out.cell 2 rfl 1 rfl, HN.out.cell 2 rfl 2 rfl, HN.out.cell 2 rfl 3 rfl, HN.out.cell 2 rfl 4 rfl⟩)
     refine LStep.made (some 68) (.slice (some ⟨wq.heap.size, 0, none⟩) 1 1) _ (by kernel_rfl) (by kernel_rfl) hH2 ?_
     exact outof_G hG (Z6.out b62 wq.heap.size b75 a63 c63 _ HN) (by kernel_rfl) (by rw [hA.out]; try kernel_rfl)
   ⟩
   have Z9 : Kept (∀ (b62 : Nat) (b68 : Nat) (b75 : Nat) (wq : World), Hid (Mem w wq [rowR 3 1 (.slice (some ⟨b62, 0, none⟩) 1 1) 1 [.int .i64 (k : Int)], rowR 3 1 (.slice (some ⟨b68, 0, none⟩) 1 1) 1 [.int .i64 0], rowR 72 5 (.slice (some ⟨b75, 0, none⟩) 1 1) 1 [.int .i64 1, .string X.name, .slice none 0 0, .map none, .bool X.isOpen], cellsR bc 72 #[.int .i64 1, .string X.name, .slice none 0 0, .map none, .bool X.isOpen], cellsR s 64 #[.slice aO k cO, .slice aR k cR, .slice aH k cH, .slice none 0 0], rowR 3 1 (.slice aO k cO) k ((List.range k).map en), rowR 3 1 (.slice aR k cR) k ((List.replicate k 0).map en), rowR 72 5 (.slice aH k cH) k (hasCells cs (List.range k)), cellsR bn 40 #[.int .i64 1, .string X.name, .slice ax X.args.length cx, .slice lx X.labels.length dx, .bool X.isOpen], cellsR bg 24 #[.slice (some ⟨b1, o1, none⟩) f.ns.length ca, .int .i64 f.root], mapsR (cs ++ [⟨X, none, 0, 0, none, 0⟩])]) → G 12 (bt 32 4161023) (((a0.put (some 62) (.slice (some ⟨b62, 0, none⟩) 1 1)).put (some 68) (.slice (some ⟨b68, 0, none⟩) 1 1)).put (some 75) (.slice (some ⟨b75, 0, none⟩) 1 1)) wq) := ⟨by
    intro b62 b68 b75 wq HC
    refine into_G hG ?_
    rw [hA.out]
    have hH := cS.is (w := wq) (⟨HC.out.cell 4 rfl 0 rfl, HC.out.cell 4 rfl 1 rfl, HC.out.cell 4 rfl 2 rfl, HC.out.cell 3 rfl 0 rfl, HC.out.cell 3 rfl 1 rfl, HC.out.cell 3 rfl 2 rfl, HC.out.cell 3 rfl 3 rfl, HC.out.cell 3 rfl 4 rfl⟩)
    refine lOne 9 (by kernel_rfl) ?_
    ·
     refine LStep.app (some 63) (.tmp 60) (.tmp 62) 31 (by kernel_rfl) 3 ji _ 1 8 Tryz.underlying31 L1.out L2.out L3.out L4.out rfl (by omega) (.slice aO k cO) k ((List.range k).map en) (by kernel_rfl) (HC.out.row 5 rfl) (some ⟨b62, 0, none⟩) 1 1 [.int .i64 (k : Int)] (by kernel_rfl) (nrowS (HC.out.row 0 rfl)) (by simp [Value.oneCell']) (by unfold maxLen; omega) (by omega) ?_
     intro v' wr hown4 hgrow4 hat4
     have M4 := HC.out.grow 5 rfl hgrow4 hown4 hat4
     obtain ⟨a63, c63, rfl, _⟩ := M4.val 5 rfl
     have HN := Tre.hid (M4.del 0)
     clear M4 hown4 hgrow4 hat4
     refine ⟨⟨HN.out.cell 3 rfl 0 rfl, HN.out.cell 3 rfl 1 rfl, HN.out.cell 3 rfl 2 rfl, HN.out.cell 2 rfl 0 rfl, HN.out.cell 2 rfl 1 rfl, HN.out.cell 2 rfl 2 rfl, HN.out.cell 2 rfl 3 rfl, HN.out.cell 2 rfl 4 rfl⟩, fun hH2 => ?_⟩
     exact outof_G hG (Z6.out b62 b68 b75 a63 c63 wr HN) (by kernel_rfl) (by rw [hA.out]; try kernel_rfl)
   ⟩
   have Z10 : Kept (∀ (b62 : Nat) (a63 : Option Addr) (c63 : Nat) (wq : World), Hid (Mem w wq [cellsR bc 72 #[.int .i64 1, .string X.name, .slice none 0 0, .map none, .bool X.isOpen], cellsR s 64 #[.slice aO k cO, .slice aR k cR, .slice aH k cH, .slice none 0 0], rowR 3 1 (.slice a63 (k + 1) c63) (k + 1) (((List.range k).map en) ++ [.int .i64 (k : Int)]), rowR 3 1 (.slice aR k cR) k ((List.replicate k 0).map en), rowR 72 5 (.slice aH k cH) k (hasCells cs (List.range k)), cellsR bn 40 #[.int .i64 1, .string X.name, .slice ax X.args.length cx, .slice lx X.labels.length dx, .bool X.isOpen], cellsR bg 24 #[.slice (some ⟨b1, o1, none⟩) f.ns.length ca, .int .i64 f.root], mapsR (cs ++ [⟨X, none, 0, 0, none, 0⟩])]) → G 13 (bt 32 2047999) ((a0.put (some 62) (.slice (some ⟨b62, 0, none⟩) 1 1)).put (some 63) (.slice a63 (k + 1) c63)) wq) := ⟨by
    intro b62 a63 c63 wq HC
    refine into_G hG ?_
    rw [hA.out]
    have hH := cS.is (w := wq) (⟨HC.out.cell 1 rfl 0 rfl, HC.out.cell 1 rfl 1 rfl, HC.out.cell 1 rfl 2 rfl, HC.out.cell 0 rfl 0 rfl, HC.out.cell 0 rfl 1 rfl, HC.out.cell 0 rfl 2 rfl, HC.out.cell 0 rfl 3 rfl, HC.out.cell 0 rfl 4 rfl⟩)
    refine lTwo 14 21 (by kernel_rfl) ?_ ?_
    ·
     have HN := Tre.hid (HC.out.allocRow #[.int .i64 0] 3 1 1 (by unfold maxLen; omega) rfl)
     have hH2 := cS.is (w := (wq.alloc (.cells #[.int .i64 0] 3))) (⟨HN.out.cell 2 rfl 0 rfl, HN.out.cell 2 rfl 1 rfl, HN.out.cell 2 rfl 2 rfl, HN.out.cell 1 rfl 0 rfl, HN.out.cell 1 rfl 1 rfl, HN.out.cell 1 rfl 2 rfl, HN.out.cell 1 rfl 3 rfl, HN.out.cell 1 rfl 4 rfl⟩)
     refine LStep.made (some 68) (.slice (some ⟨wq.heap.size, 0, none⟩) 1 1) _ (by kernel_rfl) (by kernel_rfl) hH2 ?_
     exact outof_G hG (Z7.out b62 wq.heap.size a63 c63 _ HN) (by kernel_rfl) (by rw [hA.out]; try kernel_rfl)
    ·
     have HN := Tre.hid (HC.out.allocRow #[.int .i64 1, .string X.name, .slice none 0 0, .map none, .bool X.isOpen] 72 5 1 (by unfold maxLen; omega) rfl)
     have hH2 := cS.is (w := (wq.alloc (.cells #[.int .i64 1, .string X.name, .slice none 0 0, .map none, .bool X.isOpen] 72))) (⟨HN.out.cell 2 rfl 0 rfl, HN.out.cell 2 rfl 1 rfl, HN.out.cell 2 rfl 2 rfl, HN.out.cell 1 rfl 0 rfl, HN.out.cell 1 rfl 1 rfl, HN.out.cell 1 rfl 2 rfl, HN.out.cell 1 rfl 3 rfl, HN.out.cell 1 rfl 4 rfl⟩)
     refine LStep.made (some 75) (.slice (some ⟨wq.heap.size, 0, none⟩) 1 1) _ (by kernel_rfl) (by kernel_rfl) hH2 ?_
     exact outof_G hG (Z8.out b62 wq.heap.size a63 c63 _ HN) (by kernel_rfl) (by rw [hA.out]; try kernel_rfl)
   ⟩
   have Z11 : Kept (∀ (b62 : Nat) (b68 : Nat) (wq : World), Hid (Mem w wq [rowR 3 1 (.slice (some ⟨b62, 0, none⟩) 1 1) 1 [.int .i64 (k : Int)], rowR 3 1 (.slice (some ⟨b68, 0, none⟩) 1 1) 1 [.int .i64 0], cellsR bc 72 #[.int .i64 1, .string X.name, .slice none 0 0, .map none, .bool X.isOpen], cellsR s 64 #[.slice aO k cO, .slice aR k cR, .slice aH k cH, .slice none 0 0], rowR 3 1 (.slice aO k cO) k ((List.range k).map en), rowR 3 1 (.slice aR k cR) k ((List.replicate k 0).map en), rowR 72 5 (.slice aH k cH) k (hasCells cs (List.range k)), cellsR bn 40 #[.int .i64 1, .string X.name, .slice ax X.args.length cx, .slice lx X.labels.length dx, .bool X.isOpen], cellsR bg 24 #[.slice (some ⟨b1, o1, none⟩) f.ns.length ca, .int .i64 f.root], mapsR (cs ++ [⟨X, none, 0, 0, none, 0⟩])]) → G 13 (bt 32 2063871) ((a0.put (some 62) (.slice (some ⟨b62, 0, none⟩) 1 1)).put (some 68) (.slice (some ⟨b68, 0, none⟩) 1 1)) wq) := ⟨by
    intro b62 b68 wq HC
    refine into_G hG ?_
    rw [hA.out]
    have hH := cS.is (w := wq) (⟨HC.out.cell 3 rfl 0 rfl, HC.out.cell 3 rfl 1 rfl, HC.out.cell 3 rfl 2 rfl, HC.out.cell 2 rfl 0 rfl, HC.out.cell 2 rfl 1 rfl, HC.out.cell 2 rfl 2 rfl, HC.out.cell 2 rfl 3 rfl, HC.out.cell 2 rfl 4 rfl⟩)
    refine lTwo 9 21 (by kernel_rfl) ?_ ?_
    ·
     refine LStep.app (some 63) (.tmp 60) (.tmp 62) 31 (by kernel_rfl) 3 ji _ 1 8 Tryz.underlying31 L1.out L2.out L3.out L4.out rfl (by omega) (.slice aO k cO) k ((List.range k).map en) (by kernel_rfl) (HC.out.row 4 rfl) (some ⟨b62, 0, none⟩) 1 1 [.int .i64 (k : Int)] (by kernel_rfl) (nrowS (HC.out.row 0 rfl)) (by simp [Value.oneCell']) (by unfold maxLen; omega) (by omega) ?_
     intro v' wr hown4 hgrow4 hat4
     have M4 := HC.out.grow 4 rfl hgrow4 hown4 hat4
     obtain ⟨a63, c63, rfl, _⟩ := M4.val 4 rfl
     have HN := Tre.hid (M4.del 0)
     clear M4 hown4 hgrow4 hat4
     refine ⟨⟨HN.out.cell 2 rfl 0 rfl, HN.out.cell 2 rfl 1 rfl, HN.out.cell 2 rfl 2 rfl, HN.out.cell 1 rfl 0 rfl, HN.out.cell 1 rfl 1 rfl, HN.out.cell 1 rfl 2 rfl, HN.out.cell 1 rfl 3 rfl, HN.out.cell 1 rfl 4 rfl⟩, fun hH2 => ?_⟩
     exact outof_G hG (Z7.out b62 b68 a63 c63 wr HN) (by kernel_rfl) (by rw [hA.out]; try kernel_rfl)
    ·
     have HN := Tre.hid (HC.out.allocRow #[.int .i64 1, .string X.name, .slice none 0 0, .map none, .bool X.isOpen] 72 5 1 (by unfold maxLen; omega) rfl)
     have HC := Tre.hid (((HN.out.front 0 rfl).front 2 rfl).front 2 rfl)
     clear HN
     have hH2 := cS.is (w := (wq.alloc (.cells #[.int .i64 1, .string X.name, .slice none 0 0, .map none, .bool X.isOpen] 72))) (⟨HC.out.cell 4 rfl 0 rfl, HC.out.cell 4 rfl 1 rfl, HC.out.cell 4 rfl 2 rfl, HC.out.cell 3 rfl 0 rfl, HC.out.cell 3 rfl 1 rfl, HC.out.cell 3 rfl 2 rfl, HC.out.cell 3 rfl 3 rfl, HC.out.cell 3 rfl 4 rfl⟩)
     refine LStep.made (some 75) (.slice (some ⟨wq.heap.size, 0, none⟩) 1 1) _ (by kernel_rfl) (by kernel_rfl) hH2 ?_
     exact outof_G hG (Z9.out b62 b68 wq.heap.size _ HC) (by kernel_rfl) (by rw [hA.out]; try kernel_rfl)
   ⟩
   have Z12 : Kept (∀ (b62 : Nat) (b75 : Nat) (wq : World), Hid (Mem w wq [rowR 3 1 (.slice (some ⟨b62, 0, none⟩) 1 1) 1 [.int .i64 (k : Int)], rowR 72 5 (.slice (some ⟨b75, 0, none⟩) 1 1) 1 [.int .i64 1, .string X.name, .slice none 0 0, .map none, .bool X.isOpen], cellsR bc 72 #[.int .i64 1, .string X.name, .slice none 0 0, .map none, .bool X.isOpen], cellsR s 64 #[.slice aO k cO, .slice aR k cR, .slice aH k cH, .slice none 0 0], rowR 3 1 (.slice aO k cO) k ((List.range k).map en), rowR 3 1 (.slice aR k cR) k ((List.replicate k 0).map en), rowR 72 5 (.slice aH k cH) k (hasCells cs (List.range k)), cellsR bn 40 #[.int .i64 1, .string X.name, .slice ax X.args.length cx, .slice lx X.labels.length dx, .bool X.isOpen], cellsR bg 24 #[.slice (some ⟨b1, o1, none⟩) f.ns.length ca, .int .i64 f.root], mapsR (cs ++ [⟨X, none, 0, 0, none, 0⟩])]) → G 13 (bt 32 4144639) ((a0.put (some 62) (.slice (some ⟨b62, 0, none⟩) 1 1)).put (some 75) (.slice (some ⟨b75, 0, none⟩) 1 1)) wq) := ⟨by
    intro b62 b75 wq HC
    refine into_G hG ?_
    rw [hA.out]
    have hH := cS.is (w := wq) (⟨HC.out.cell 3 rfl 0 rfl, HC.out.cell 3 rfl 1 rfl, HC.out.cell 3 rfl 2 rfl, HC.out.cell 2 rfl 0 rfl, HC.out.cell 2 rfl 1 rfl, HC.out.cell 2 rfl 2 rfl, HC.out.cell 2 rfl 3 rfl, HC.out.cell 2 rfl 4 rfl⟩)
    refine lTwo 9 14 (by kernel_rfl) ?_ ?_
    ·
     refine LStep.app (some 63) (.tmp 60) (.tmp 62) 31 (by kernel_rfl) 3 ji _ 1 8 Tryz.underlying31 L1.out L2.out L3.out L4.out rfl (by omega) (.slice aO k cO) k ((List.range k).map en) (by kernel_rfl) (HC.out.row 4 rfl) (some ⟨b62, 0, none⟩) 1 1 [.int .i64 (k : Int)] (by kernel_rfl) (nrowS (HC.out.row 0 rfl)) (by simp [Value.oneCell']) (by unfold maxLen; omega) (by omega) ?_
     intro v' wr hown4 hgrow4 hat4
     have M4 := HC.out.grow 4 rfl hgrow4 hown4 hat4
     obtain ⟨a63, c63, rfl, _⟩ := M4.val 4 rfl
     have HN := Tre.hid (M4.del 0)
     clear M4 hown4 hgrow4 hat4
     refine ⟨⟨HN.out.cell 2 rfl 0 rfl, HN.out.cell 2 rfl 1 rfl, HN.out.cell 2 rfl 2 rfl, HN.out.cell 1 rfl 0 rfl, HN.out.cell 1 rfl 1 rfl, HN.out.cell 1 rfl 2 rfl, HN.out.cell 1 rfl 3 rfl, HN.out.cell 1 rfl 4 rfl⟩, fun hH2 => ?_⟩
     exact outof_G hG (Z8.out b62 b75 a63 c63 wr HN) (by kernel_rfl) (by rw [hA.out]; try kernel_rfl)
    ·
     have HN := Tre.hid (HC.out.allocRow #[.int .i64 0] 3 1 1 (by unfold maxLen; omega) rfl)
     have HC := Tre.hid ((HN.out.front 0 rfl).front 1 rfl)
     clear HN
     have hH2 := cS.is (w := (wq.alloc (.cells #[.int .i64 0] 3))) (⟨HC.out.cell 4 rfl 0 rfl, HC.out.cell 4 rfl 1 rfl, HC.out.cell 4 rfl 2 rfl, HC.out.cell 3 rfl 0 rfl, HC.out.cell 3 rfl 1 rfl, HC.out.cell 3 rfl 2 rfl, HC.out.cell 3 rfl 3 rfl, HC.out.cell 3 rfl 4 rfl⟩)
     refine LStep.made (some 68) (.slice (some ⟨wq.heap.size, 0, none⟩) 1 1) _ (by kernel_rfl) (by kernel_rfl) hH2 ?_
     exact outof_G hG (Z9.out b62 wq.heap.size b75 _ HC) (by kernel_rfl) (by rw [hA.out]; try kernel_rfl)
   ⟩
   have Z13 : Kept (∀ (b68 : Nat) (b75 : Nat) (wq : World), Hid (Mem w wq [rowR 3 1 (.slice (some ⟨b68, 0, none⟩) 1 1) 1 [.int .i64 0], rowR 72 5 (.slice (some ⟨b75, 0, none⟩) 1 1) 1 [.int .i64 1, .string X.name, .slice none 0 0, .map none, .bool X.isOpen], cellsR bc 72 #[.int .i64 1, .string X.name, .slice none 0 0, .map none, .bool X.isOpen], cellsR s 64 #[.slice aO k cO, .slice aR k cR, .slice aH k cH, .slice none 0 0], rowR 3 1 (.slice aO k cO) k ((List.range k).map en), rowR 3 1 (.slice aR k cR) k ((List.replicate k 0).map en), rowR 72 5 (.slice aH k cH) k (hasCells cs (List.range k)), cellsR bn 40 #[.int .i64 1, .string X.name, .slice ax X.args.length cx, .slice lx X.labels.length dx, .bool X.isOpen], cellsR bg 24 #[.slice (some ⟨b1, o1, none⟩) f.ns.length ca, .int .i64 f.root], mapsR (cs ++ [⟨X, none, 0, 0, none, 0⟩])]) → G 13 (bt 32 4160767) ((a0.put (some 68) (.slice (some ⟨b68, 0, none⟩) 1 1)).put (some 75) (.slice (some ⟨b75, 0, none⟩) 1 1)) wq) := ⟨by
    intro b68 b75 wq HC
    refine into_G hG ?_
    rw [hA.out]
    have hH := cS.is (w := wq) (⟨HC.out.cell 3 rfl 0 rfl, HC.out.cell 3 rfl 1 rfl, HC.out.cell 3 rfl 2 rfl, HC.out.cell 2 rfl 0 rfl, HC.out.cell 2 rfl 1 rfl, HC.out.cell 2 rfl 2 rfl, HC.out.cell 2 rfl 3 rfl, HC.out.cell 2 rfl 4 rfl⟩)
    refine lOne 8 (by kernel_rfl) ?_
    ·
     have HN := Tre.hid (HC.out.allocRow #[.int .i64 (k : Int)] 3 1 1 (by unfold maxLen; omega) rfl)
     have hH2 := cS.is (w := (wq.alloc (.cells #[.int .i64 (k : Int)] 3))) (⟨HN.out.cell 4 rfl 0 rfl, HN.out.cell 4 rfl 1 rfl, HN.out.cell 4 rfl 2 rfl, HN.out.cell 3 rfl 0 rfl, HN.out.cell 3 rfl 1 rfl, HN.out.cell 3 rfl 2 rfl, HN.out.cell 3 rfl 3 rfl, HN.out.cell 3 rfl 4 rfl⟩)
     refine LStep.made (some 62) (.slice (some ⟨wq.heap.size, 0, none⟩) 1 1) _ (by kernel_rfl) (by kernel_rfl) hH2 ?_
     exact outof_G hG (Z9.out wq.heap.size b68 b75 _ HN) (by kernel_rfl) (by rw [hA.out]; try kernel_rfl)
   ⟩
   have Z14 : Kept (∀ (b62 : Nat) (wq : World), Hid (Mem w wq [rowR 3 1 (.slice (some ⟨b62, 0, none⟩) 1 1) 1 [.int .i64 (k : Int)], cellsR bc 72 #[.int .i64 1, .string X.name, .slice none 0 0, .map none, .bool X.isOpen], cellsR s 64 #[.slice aO k cO, .slice aR k cR, .slice aH k cH, .slice none 0 0], rowR 3 1 (.slice aO k cO) k ((List.range k).map en), rowR 3 1 (.slice aR k cR) k ((List.replicate k 0).map en), rowR 72 5 (.slice aH k cH) k (hasCells cs (List.range k)), cellsR bn 40 #[.int .i64 1, .string X.name, .slice ax X.args.length cx, .slice lx X.labels.length dx, .bool X.isOpen], cellsR bg 24 #[.slice (some ⟨b1, o1, none⟩) f.ns.length ca, .int .i64 f.root], mapsR (cs ++ [⟨X, none, 0, 0, none, 0⟩])]) → G 14 (bt 32 2047487) (a0.put (some 62) (.slice (some ⟨b62, 0, none⟩) 1 1)) wq) := ⟨by
    intro b62 wq HC
    refine into_G hG ?_
    rw [hA.out]
    have hH := cS.is (w := wq) (⟨HC.out.cell 2 rfl 0 rfl, HC.out.cell 2 rfl 1 rfl, HC.out.cell 2 rfl 2 rfl, HC.out.cell 1 rfl 0 rfl, HC.out.cell 1 rfl 1 rfl, HC.out.cell 1 rfl 2 rfl, HC.out.cell 1 rfl 3 rfl, HC.out.cell 1 rfl 4 rfl⟩)
    refine lThree 9 14 21 (by kernel_rfl) ?_ ?_ ?_
    ·
     refine LStep.app (some 63) (.tmp 60) (.tmp 62) 31 (by kernel_rfl) 3 ji _ 1 8 Tryz.underlying31 L1.out L2.out L3.out L4.out rfl (by omega) (.slice aO k cO) k ((List.range k).map en) (by kernel_rfl) (HC.out.row 3 rfl) (some ⟨b62, 0, none⟩) 1 1 [.int .i64 (k : Int)] (by kernel_rfl) (nrowS (HC.out.row 0 rfl)) (by simp [Value.oneCell']) (by unfold maxLen; omega) (by omega) ?_
     intro v' wr hown4 hgrow4 hat4
     have M4 := HC.out.grow 3 rfl hgrow4 hown4 hat4
     obtain ⟨a63, c63, rfl, _⟩ := M4.val 3 rfl
     have HN := Tre.hid (M4.del 0)
     clear M4 hown4 hgrow4 hat4
     refine ⟨⟨HN.out.cell 1 rfl 0 rfl, HN.out.cell 1 rfl 1 rfl, HN.out.cell 1 rfl 2 rfl, HN.out.cell 0 rfl 0 rfl, HN.out.cell 0 rfl 1 rfl, HN.out.cell 0 rfl 2 rfl, HN.out.cell 0 rfl 3 rfl, HN.out.cell 0 rfl 4 rfl⟩, fun hH2 => ?_⟩
     exact outof_G hG (Z10.out b62 a63 c63 wr HN) (by kernel_rfl) (by rw [hA.out]; try kernel_rfl)
    ·
     have HN := Tre.hid (HC.out.allocRow #[.int .i64 0] 3 1 1 (by unfold maxLen; omega) rfl)
     have HC := Tre.hid ((HN.out.front 0 rfl).front 1 rfl)
     clear HN
     have hH2 := cS.is (w := (wq.alloc (.cells #[.int .i64 0] 3))) (⟨HC.out.cell 3 rfl 0 rfl, HC.out.cell 3 rfl 1 rfl, HC.out.cell 3 rfl 2 rfl, HC.out.cell 2 rfl 0 rfl, HC.out.cell 2 rfl 1 rfl, HC.out.cell 2 rfl 2 rfl, HC.out.cell 2 rfl 3 rfl, HC.out.cell 2 rfl 4 rfl⟩)
     refine LStep.made (some 68) (.slice (some ⟨wq.heap.size, 0, none⟩) 1 1) _ (by kernel_rfl) (by kernel_rfl) hH2 ?_
     exact outof_G hG (Z11.out b62 wq.heap.size _ HC) (by kernel_rfl) (by rw [hA.out]; try kernel_rfl)
    ·
     have HN := Tre.hid (HC.out.allocRow #[.int .i64 1, .string X.name, .slice none 0 0, .map none, .bool X.isOpen] 72 5 1 (by unfold maxLen; omega) rfl)
     have HC := Tre.hid ((HN.out.front 0 rfl).front 1 rfl)
     clear HN
     have hH2 := cS.is (w := (wq.alloc (.cells #[.int .i64 1, .string X.name, .slice none 0 0, .map none, .bool X.isOpen] 72))) (⟨HC.out.cell 3 rfl 0 rfl, HC.out.cell 3 rfl 1 rfl, HC.out.cell 3 rfl 2 rfl, HC.out.cell 2 rfl 0 rfl, HC.out.cell 2 rfl 1 rfl, HC.out.cell 2 rfl 2 rfl, HC.out.cell 2 rfl 3 rfl, HC.out.cell 2 rfl 4 rfl⟩)
     refine LStep.made (some 75) (.slice (some ⟨wq.heap.size, 0, none⟩) 1 1) _ (by kernel_rfl) (by kernel_rfl) hH2 ?_
     exact outof_G hG (Z12.out b62 wq.heap.size _ HC) (by kernel_rfl) (by rw [hA.out]; try kernel_rfl)
   ⟩
   have Z15 : Kept (∀ (b68 : Nat) (wq : World), Hid (Mem w wq [rowR 3 1 (.slice (some ⟨b68, 0, none⟩) 1 1) 1 [.int .i64 0], cellsR bc 72 #[.int .i64 1, .string X.name, .slice none 0 0, .map none, .bool X.isOpen], cellsR s 64 #[.slice aO k cO, .slice aR k cR, .slice aH k cH, .slice none 0 0], rowR 3 1 (.slice aO k cO) k ((List.range k).map en), rowR 3 1 (.slice aR k cR) k ((List.replicate k 0).map en), rowR 72 5 (.slice aH k cH) k (hasCells cs (List.range k)), cellsR bn 40 #[.int .i64 1, .string X.name, .slice ax X.args.length cx, .slice lx X.labels.length dx, .bool X.isOpen], cellsR bg 24 #[.slice (some ⟨b1, o1, none⟩) f.ns.length ca, .int .i64 f.root], mapsR (cs ++ [⟨X, none, 0, 0, none, 0⟩])]) → G 14 (bt 32 2063615) (a0.put (some 68) (.slice (some ⟨b68, 0, none⟩) 1 1)) wq) := ⟨by
    intro b68 wq HC
    refine into_G hG ?_
    rw [hA.out]
    have hH := cS.is (w := wq) (⟨HC.out.cell 2 rfl 0 rfl, HC.out.cell 2 rfl 1 rfl, HC.out.cell 2 rfl 2 rfl, HC.out.cell 1 rfl 0 rfl, HC.out.cell 1 rfl 1 rfl, HC.out.cell 1 rfl 2 rfl, HC.out.cell 1 rfl 3 rfl, HC.out.cell 1 rfl 4 rfl⟩)
    refine lTwo 8 21 (by kernel_rfl) ?_ ?_
    ·
     have HN := Tre.hid (HC.out.allocRow #[.int .i64 (k : Int)] 3 1 1 (by unfold maxLen; omega) rfl)
     have hH2 := cS.is (w := (wq.alloc (.cells #[.int .i64 (k : Int)] 3))) (⟨HN.out.cell 3 rfl 0 rfl, HN.out.cell 3 rfl 1 rfl, HN.out.cell 3 rfl 2 rfl, HN.out.cell 2 rfl 0 rfl, HN.out.cell 2 rfl 1 rfl, HN.out.cell 2 rfl 2 rfl, HN.out.cell 2 rfl 3 rfl, HN.out.cell 2 rfl 4 rfl⟩)
     refine LStep.made (some 62) (.slice (some ⟨wq.heap.size, 0, none⟩) 1 1) _ (by kernel_rfl) (by kernel_rfl) hH2 ?_
     exact outof_G hG (Z11.out wq.heap.size b68 _ HN) (by kernel_rfl) (by rw [hA.out]; try kernel_rfl)
    ·
     have HN := Tre.hid (HC.out.allocRow #[.int .i64 1, .string X.name, .slice none 0 0, .map none, .bool X.isOpen] 72 5 1 (by unfold maxLen; omega) rfl)
     have HC := Tre.hid ((HN.out.front 0 rfl).front 1 rfl)
     clear HN
     have hH2 := cS.is (w := (wq.alloc (.cells #[.int .i64 1, .string X.name, .slice none 0 0, .map none, .bool X.isOpen] 72))) (⟨HC.out.cell 3 rfl 0 rfl, HC.out.cell 3 rfl 1 rfl, HC.out.cell 3 rfl 2 rfl, HC.out.cell 2 rfl 0 rfl, HC.out.cell 2 rfl 1 rfl, HC.out.cell 2 rfl 2 rfl, HC.out.cell 2 rfl 3 rfl, HC.out.cell 2 rfl 4 rfl⟩)
     refine LStep.made (some 75) (.slice (some ⟨wq.heap.size, 0, none⟩) 1 1) _ (by kernel_rfl) (by kernel_rfl) hH2 ?_
     exact outof_G hG (Z13.out b68 wq.heap.size _ HC) (by kernel_rfl) (by rw [hA.out]; try kernel_rfl)
   ⟩
   have Z16 : Kept (∀ (b75 : Nat) (wq : World), Hid (Mem w wq [rowR 72 5 (.slice (some ⟨b75, 0, none⟩) 1 1) 1 [.int .i64 1, .string X.name, .slice none 0 0, .map none, .bool X.isOpen], cellsR bc 72 #[.int .i64 1, .string X.name, .slice none 0 0, .map none, .bool X.isOpen], cellsR s 64 #[.slice aO k cO, .slice aR k cR, .slice aH k cH, .slice none 0 0], rowR 3 1 (.slice aO k cO) k ((List.range k).map en), rowR 3 1 (.slice aR k cR) k ((List.replicate k 0).map en), rowR 72 5 (.slice aH k cH) k (hasCells cs (List.range k)), cellsR bn 40 #[.int .i64 1, .string X.name, .slice ax X.args.length cx, .slice lx X.labels.length dx, .bool X.isOpen], cellsR bg 24 #[.slice (some ⟨b1, o1, none⟩) f.ns.length ca, .int .i64 f.root], mapsR (cs ++ [⟨X, none, 0, 0, none, 0⟩])]) → G 14 (bt 32 4144383) (a0.put (some 75) (.slice (some ⟨b75, 0, none⟩) 1 1)) wq) := ⟨by
    intro b75 wq HC
    refine into_G hG ?_
    rw [hA.out]
    have hH := cS.is (w := wq) (⟨HC.out.cell 2 rfl 0 rfl, HC.out.cell 2 rfl 1 rfl, HC.out.cell 2 rfl 2 rfl, HC.out.cell 1 rfl 0 rfl, HC.out.cell 1 rfl 1 rfl, HC.out.cell 1 rfl 2 rfl, HC.out.cell 1 rfl 3 rfl, HC.out.cell 1 rfl 4 rfl⟩)
    refine lTwo 8 14 (by kernel_rfl) ?_ ?_
    ·
     have HN := Tre.hid (HC.out.allocRow #[.int .i64 (k : Int)] 3 1 1 (by unfold maxLen; omega) rfl)
     have hH2 := cS.is (w := (wq.alloc (.cells #[.int .i64 (k : Int)] 3))) (⟨HN.out.cell 3 rfl 0 rfl, HN.out.cell 3 rfl 1 rfl, HN.out.cell 3 rfl 2 rfl, HN.out.cell 2 rfl 0 rfl, HN.out.cell 2 rfl 1 rfl, HN.out.cell 2 rfl 2 rfl, HN.out.cell 2 rfl 3 rfl, HN.out.cell 2 rfl 4 rfl⟩)
     refine LStep.made (some 62) (.slice (some ⟨wq.heap.size, 0, none⟩) 1 1) _ (by kernel_rfl) (by kernel_rfl) hH2 ?_
     exact outof_G hG (Z12.out wq.heap.size b75 _ HN) (by kernel_rfl) (by rw [hA.out]; try kernel_rfl)
    ·
     have HN := Tre.hid (HC.out.allocRow #[.int .i64 0] 3 1 1 (by unfold maxLen; omega) rfl)
     have hH2 := cS.is (w := (wq.alloc (.cells #[.int .i64 0] 3))) (⟨HN.out.cell 3 rfl 0 rfl, HN.out.cell 3 rfl 1 rfl, HN.out.cell 3 rfl 2 rfl, HN.out.cell 2 rfl 0 rfl, HN.out.cell 2 rfl 1 rfl, HN.out.cell 2 rfl 2 rfl, HN.out.cell 2 rfl 3 rfl, HN.out.cell 2 rfl 4 rfl⟩)
     refine LStep.made (some 68) (.slice (some ⟨wq.heap.size, 0, none⟩) 1 1) _ (by kernel_rfl) (by kernel_rfl) hH2 ?_
     exact outof_G hG (Z13.out wq.heap.size b75 _ HN) (by kernel_rfl) (by rw [hA.out]; try kernel_rfl)
   ⟩
   have Z17 : Kept (∀ (wq : World), Hid (Mem w wq [cellsR bc 72 #[.int .i64 1, .string X.name, .slice none 0 0, .map none, .bool X.isOpen], cellsR s 64 #[.slice aO k cO, .slice aR k cR, .slice aH k cH, .slice none 0 0], rowR 3 1 (.slice aO k cO) k ((List.range k).map en), rowR 3 1 (.slice aR k cR) k ((List.replicate k 0).map en), rowR 72 5 (.slice aH k cH) k (hasCells cs (List.range k)), cellsR bn 40 #[.int .i64 1, .string X.name, .slice ax X.args.length cx, .slice lx X.labels.length dx, .bool X.isOpen], cellsR bg 24 #[.slice (some ⟨b1, o1, none⟩) f.ns.length ca, .int .i64 f.root], mapsR (cs ++ [⟨X, none, 0, 0, none, 0⟩])]) → G 15 (bt 32 2047231) (a0) wq) := ⟨by
    intro  wq HC
    refine into_G hG ?_
    rw [hA.out]
    have hH := cS.is (w := wq) (⟨HC.out.cell 1 rfl 0 rfl, HC.out.cell 1 rfl 1 rfl, HC.out.cell 1 rfl 2 rfl, HC.out.cell 0 rfl 0 rfl, HC.out.cell 0 rfl 1 rfl, HC.out.cell 0 rfl 2 rfl, HC.out.cell 0 rfl 3 rfl, HC.out.cell 0 rfl 4 rfl⟩)
    refine lThree 8 14 21 (by kernel_rfl) ?_ ?_ ?_
    ·
     have HN := Tre.hid (HC.out.allocRow #[.int .i64 (k : Int)] 3 1 1 (by unfold maxLen; omega) rfl)
     have hH2 := cS.is (w := (wq.alloc (.cells #[.int .i64 (k : Int)] 3))) (⟨HN.out.cell 2 rfl 0 rfl, HN.out.cell 2 rfl 1 rfl, HN.out.cell 2 rfl 2 rfl, HN.out.cell 1 rfl 0 rfl, HN.out.cell 1 rfl 1 rfl, HN.out.cell 1 rfl 2 rfl, HN.out.cell 1 rfl 3 rfl, HN.out.cell 1 rfl 4 rfl⟩)
     refine LStep.made (some 62) (.slice (some ⟨wq.heap.size, 0, none⟩) 1 1) _ (by kernel_rfl) (by kernel_rfl) hH2 ?_
     exact outof_G hG (Z14.out wq.heap.size _ HN) (by kernel_rfl) (by rw [hA.out]; try kernel_rfl)
    ·
     have HN := Tre.hid (HC.out.allocRow #[.int .i64 0] 3 1 1 (by unfold maxLen; omega) rfl)
     have hH2 := cS.is (w := (wq.alloc (.cells #[.int .i64 0] 3))) (⟨HN.out.cell 2 rfl 0 rfl, HN.out.cell 2 rfl 1 rfl, HN.out.cell 2 rfl 2 rfl, HN.out.cell 1 rfl 0 rfl, HN.out.cell 1 rfl 1 rfl, HN.out.cell 1 rfl 2 rfl, HN.out.cell 1 rfl 3 rfl, HN.out.cell 1 rfl 4 rfl⟩)
     refine LStep.made (some 68) (.slice (some ⟨wq.heap.size, 0, none⟩) 1 1) _ (by kernel_rfl) (by kernel_rfl) hH2 ?_
     exact outof_G hG (Z15.out wq.heap.size _ HN) (by kernel_rfl) (by rw [hA.out]; try kernel_rfl)
    ·
     have HN := Tre.hid (HC.out.allocRow #[.int .i64 1, .string X.name, .slice none 0 0, .map none, .bool X.isOpen] 72 5 1 (by unfold maxLen; omega) rfl)
     have hH2 := cS.is (w := (wq.alloc (.cells #[.int .i64 1, .string X.name, .slice none 0 0, .map none, .bool X.isOpen] 72))) (⟨HN.out.cell 2 rfl 0 rfl, HN.out.cell 2 rfl 1 rfl, HN.out.cell 2 rfl 2 rfl, HN.out.cell 1 rfl 0 rfl, HN.out.cell 1 rfl 1 rfl, HN.out.cell 1 rfl 2 rfl, HN.out.cell 1 rfl 3 rfl, HN.out.cell 1 rfl 4 rfl⟩)
     refine LStep.made (some 75) (.slice (some ⟨wq.heap.size, 0, none⟩) 1 1) _ (by kernel_rfl) (by kernel_rfl) hH2 ?_
     exact outof_G hG (Z16.out wq.heap.size _ HN) (by kernel_rfl) (by rw [hA.out]; try kernel_rfl)
   ⟩
   exact Z17.out  wq0 HC
  ·rw [kk] at x0
   have MA := (HM.out.allocR #[.int .i64 2, .string X.name, .slice ax X.args.length cx, .slice lx X.labels.length dx, .bool X.isOpen] 40).allocR #[.int .i64 2, .string X.name, .slice ax X.args.length cx, .map none, .bool X.isOpen] 72
   simp only [heapSize_alloc] at MA
   have HQ := Tre.hid ((((((((((mapsR_skip (c := ⟨X, ax, X.args.length, cx, none, 0⟩) (MA.front 7 rfl) (by show X.kind ≠ 3; omega)).front 0 rfl).front 7 rfl).front 3 rfl).front 7 rfl).front 7 rfl).front 7 rfl).front 7 rfl).front 7 rfl))
   have HKK := Tre.hid kk
   have H5 := Tre.hid h5
   have H7 := Tre.hid h7
   clear MA HM kk h5 h6 h7 h8
   go_wp2_with fail
   generalize hz1 : wr.heap.size + 1 = bc at *
   generalize hz2 : wr.heap.size = bn at *
   generalize hww : World.alloc _ _ = w2 at HQ ⊢
   clear hz1 hz2 hww g0 g1 x0 x1 x2 x3 x4
   have HOK : Hid (ClsOk wb ⟨X, ax, X.args.length, cx, none, 0⟩) := ⟨fun h => absurd (h.symm.trans HKK.out) (by omega), fun _ => ⟨rfl, H5.out, H7.out, rfl⟩, fun h => absurd (h.symm.trans HKK.out) (by omega)⟩
   have cS : Cond (fun w' => w'.cell? ⟨s, 0, none⟩ = some (.slice aO k cO) ∧ w'.cell? ⟨s, 1, none⟩ = some (.slice aR k cR) ∧ w'.cell? ⟨s, 2, none⟩ = some (.slice aH k cH) ∧ w'.cell? ⟨bc, 0, none⟩ = some (.int .i64 2) ∧ w'.cell? ⟨bc, 1, none⟩ = some (.string X.name) ∧ w'.cell? ⟨bc, 2, none⟩ = some (.slice ax X.args.length cx) ∧ w'.cell? ⟨bc, 3, none⟩ = some (.map none) ∧ w'.cell? ⟨bc, 4, none⟩ = some (.bool X.isOpen)) := ⟨⟩
   refine cS.keep [22, 25, 28, 31] ?_ (fun hH => ?_)
   ·exact ⟨HQ.out.cell 1 rfl 0 rfl, HQ.out.cell 1 rfl 1 rfl, HQ.out.cell 1 rfl 2 rfl, HQ.out.cell 0 rfl 0 rfl, HQ.out.cell 0 rfl 1 rfl, HQ.out.cell 0 rfl 2 rfl, HQ.out.cell 0 rfl 3 rfl, HQ.out.cell 0 rfl 4 rfl⟩
   have HC := Tre.hid HQ.out.drew
   generalize hq : World.drew _ = wq0 at HC hH ⊢
   clear hq HQ
   refine lPv 0 (some 54) (.pointer (some ⟨s, 0, none⟩)) (keep_of hH) ?_
   refine lPv 1 (some 55) (.pointer (some ⟨s, 0, none⟩)) (keep_of hH) ?_
   refine lPv 2 (some 56) (.pointer (some ⟨s, 0, none⟩)) (keep_of hH) ?_
   refine lPv 3 (some 57) (.pointer (some ⟨s, 0, none⟩)) (keep_of hH) ?_
   refine lPv 4 (some 58) (.pointer (some ⟨s, 0, none⟩)) (keep_of hH) ?_
   refine lPv 5 (some 59) (.pointer (some ⟨s, 0, none⟩)) (keep_of hH) ?_
   try simp only [Act.put, zqf, zqg, zqh]
   refine lTq 6 (some 60) (v := ?_) rfl ?_ hH ?_
   rotate_left
   ·intro w hSw; (try dsimp only at hSw); go_simp <;> with_reducible rfl
   try simp only [Act.put, zqf, zqg, zqh]
   refine lPv 7 (some 61) (.int .i64 (k : Int)) (keep_of hH) ?_
   refine lPv 10 (some 64) (.pointer (some ⟨s, 0, none⟩)) (keep_of hH) ?_
   refine lPv 11 (some 65) (.pointer (some ⟨s, 0, none⟩)) (keep_of hH) ?_
   refine lPv 12 (some 66) (.pointer (some ⟨s, 1, none⟩)) (keep_of hH) ?_
   try simp only [Act.put, zqf, zqg, zqh]
   refine lTq 13 (some 67) (v := ?_) rfl ?_ hH ?_
   rotate_left
   ·intro w hSw; (try dsimp only at hSw); go_simp <;> with_reducible rfl
   try simp only [Act.put, zqf, zqg, zqh]
   refine lPv 16 (some 70) (.pointer (some ⟨s, 0, none⟩)) (keep_of hH) ?_
   refine lPv 17 (some 71) (.pointer (some ⟨s, 0, none⟩)) (keep_of hH) ?_
   refine lPv 18 (some 72) (.pointer (some ⟨s, 2, none⟩)) (keep_of hH) ?_
   try simp only [Act.put, zqf, zqg, zqh]
   refine lTq 19 (some 73) (v := ?_) rfl ?_ hH ?_
   rotate_left
   ·intro w hSw; (try dsimp only at hSw); go_simp <;> with_reducible rfl
   try simp only [Act.put, zqf, zqg, zqh]
   try simp only [Act.put, zqf, zqg, zqh]
   refine lTq 20 (some 74) (v := ?_) rfl ?_ hH ?_
   rotate_left
   ·intro w hSw; (try dsimp only at hSw); go_simp <;> with_reducible rfl
   try simp only [Act.put, zqf, zqg, zqh]
   try simp only [Act.put, zqf, zqg, zqh]
   refine with_G (G0 := wpAnyL _ _ _ _ _ _) ?_
   intro G hG a0 hA
   have Z0 : Kept (∀ (b62 : Nat) (b68 : Nat) (b75 : Nat) (a63 : Option Addr) (c63 : Nat) (a69 : Option Addr) (c69 : Nat) (a76 : Option Addr) (c76 : Nat) (wq : World), Hid (Mem w wq [cellsR bc 72 #[.int .i64 2, .string X.name, .slice ax X.args.length cx, .map none, .bool X.isOpen], cellsR s 64 #[.slice a63 (k + 1) c63, .slice a69 (k + 1) c69, .slice a76 (k + 1) c76, .slice none 0 0], rowR 3 1 (.slice a63 (k + 1) c63) (k + 1) (((List.range k).map en) ++ [.int .i64 (k : Int)]), rowR 3 1 (.slice a69 (k + 1) c69) (k + 1) (((List.replicate k 0).map en) ++ [.int .i64 0]), rowR 72 5 (.slice a76 (k + 1) c76) (k + 1) ((hasCells cs (List.range k)) ++ [.int .i64 2, .string X.name, .slice ax X.args.length cx, .map none, .bool X.isOpen]), cellsR bn 40 #[.int .i64 2, .string X.name, .slice ax X.args.length cx, .slice lx X.labels.length dx, .bool X.isOpen], cellsR bg 24 #[.slice (some ⟨b1, o1, none⟩) f.ns.length ca, .int .i64 f.root], mapsR (cs ++ [⟨X, ax, X.args.length, cx, none, 0⟩])]) → G 0 (bt 32 4294967295) ((((((((((((a0.put (some 62) (.slice (some ⟨b62, 0, none⟩) 1 1)).put (some 63) (.slice a63 (k + 1) c63)).put (some 68) (.slice (some ⟨b68, 0, none⟩) 1 1)).put (some 69) (.slice a69 (k + 1) c69)).put (some 75) (.slice (some ⟨b75, 0, none⟩) 1 1)).put (some 76) (.slice a76 (k + 1) c76)).put (some 77) (.pointer (some ⟨s, 0, none⟩))).put (some 78) (.pointer (some ⟨s, 0, none⟩))).put (some 79) (.pointer (some ⟨s, 0, none⟩))).put (some 80) (.pointer (some ⟨s, 1, none⟩))).put (some 81) (.pointer (some ⟨s, 0, none⟩))).put (some 82) (.pointer (some ⟨s, 2, none⟩))) wq) := ⟨by
    intro b62 b68 b75 a63 c63 a69 c69 a76 c76 wq HC
    refine into_G hG ?_
    rw [hA.out]
    try simp only [Act.put, zqf, zqg, zqh]
    refine lDone (by kernel_rfl) ?_
    clear hA hG
    go_wp2_with fail
    go_roundw
    case rel =>
     refine ⟨k + 1, cs ++ [⟨X, ax, X.args.length, cx, none, 0⟩], a63, c63, a69, c69, a76, c76, by omega, by go_num, snoc_len HCL.out, snoc_ok HCL.out HCK.out HXX.out HOK.out, ?_⟩
     have h := (HC.out.del 0).del 4
     show Mem _ _ _
     rw [range_en, repl_en, hasCells_more HCL.out, show (⟨X, ax, X.args.length, cx, none, 0⟩ : ClsV).cells = [.int .i64 2, .string X.name, .slice ax X.args.length cx, .map none, .bool X.isOpen] by simp only [ClsV.cells, HKK.out]]
     exact h
    case measure => simp [intOf]; omega
   ⟩
   have Z1 : Kept (∀ (b62 : Nat) (b68 : Nat) (b75 : Nat) (a63 : Option Addr) (c63 : Nat) (a69 : Option Addr) (c69 : Nat) (a76 : Option Addr) (c76 : Nat) (wq : World), Hid (Mem w wq [cellsR bc 72 #[.int .i64 2, .string X.name, .slice ax X.args.length cx, .map none, .bool X.isOpen], cellsR s 64 #[.slice a63 (k + 1) c63, .slice a69 (k + 1) c69, .slice aH k cH, .slice none 0 0], rowR 3 1 (.slice a63 (k + 1) c63) (k + 1) (((List.range k).map en) ++ [.int .i64 (k : Int)]), rowR 3 1 (.slice a69 (k + 1) c69) (k + 1) (((List.replicate k 0).map en) ++ [.int .i64 0]), rowR 72 5 (.slice a76 (k + 1) c76) (k + 1) ((hasCells cs (List.range k)) ++ [.int .i64 2, .string X.name, .slice ax X.args.length cx, .map none, .bool X.isOpen]), cellsR bn 40 #[.int .i64 2, .string X.name, .slice ax X.args.length cx, .slice lx X.labels.length dx, .bool X.isOpen], cellsR bg 24 #[.slice (some ⟨b1, o1, none⟩) f.ns.length ca, .int .i64 f.root], mapsR (cs ++ [⟨X, ax, X.args.length, cx, none, 0⟩])]) → G 1 (bt 32 2147483647) ((((((((((((a0.put (some 62) (.slice (some ⟨b62, 0, none⟩) 1 1)).put (some 63) (.slice a63 (k + 1) c63)).put (some 68) (.slice (some ⟨b68, 0, none⟩) 1 1)).put (some 69) (.slice a69 (k + 1) c69)).put (some 75) (.slice (some ⟨b75, 0, none⟩) 1 1)).put (some 76) (.slice a76 (k + 1) c76)).put (some 77) (.pointer (some ⟨s, 0, none⟩))).put (some 78) (.pointer (some ⟨s, 0, none⟩))).put (some 79) (.pointer (some ⟨s, 0, none⟩))).put (some 80) (.pointer (some ⟨s, 1, none⟩))).put (some 81) (.pointer (some ⟨s, 0, none⟩))).put (some 82) (.pointer (some ⟨s, 2, none⟩))) wq) := ⟨by
    intro b62 b68 b75 a63 c63 a69 c69 a76 c76 wq HC
    refine into_G hG ?_
    rw [hA.out]
    try simp only [Act.put, zqf, zqg, zqh]
    refine lOne 31 (by kernel_rfl) ?_
    ·
     refine (LFall.op (by kernel_rfl) (fun K hK => ?_))
     have z0 := HC.out.free 1 rfl 2
     have y0 := HC.out.cell 1 rfl 2 rfl
     have HN := Tre.hid (HC.out.setCell 1 rfl 2 (.slice a76 (k + 1) c76))
     go_simp
     clear z0 y0
     generalize hw : wq.setCell ⟨s, 2, none⟩ _ = wr at HN ⊢
     clear hw
     refine hK.out _ _ ?_
     exact outof_G hG (Z0.out b62 b68 b75 a63 c63 a69 c69 a76 c76 wr HN) (by kernel_rfl) (by rw [hA.out]; try kernel_rfl)
   ⟩
   have Z2 : Kept (∀ (b62 : Nat) (b68 : Nat) (b75 : Nat) (a63 : Option Addr) (c63 : Nat) (a69 : Option Addr) (c69 : Nat) (a76 : Option Addr) (c76 : Nat) (wq : World), Hid (Mem w wq [cellsR bc 72 #[.int .i64 2, .string X.name, .slice ax X.args.length cx, .map none, .bool X.isOpen], cellsR s 64 #[.slice a63 (k + 1) c63, .slice aR k cR, .slice aH k cH, .slice none 0 0], rowR 3 1 (.slice a63 (k + 1) c63) (k + 1) (((List.range k).map en) ++ [.int .i64 (k : Int)]), rowR 3 1 (.slice a69 (k + 1) c69) (k + 1) (((List.replicate k 0).map en) ++ [.int .i64 0]), rowR 72 5 (.slice a76 (k + 1) c76) (k + 1) ((hasCells cs (List.range k)) ++ [.int .i64 2, .string X.name, .slice ax X.args.length cx, .map none, .bool X.isOpen]), cellsR bn 40 #[.int .i64 2, .string X.name, .slice ax X.args.length cx, .slice lx X.labels.length dx, .bool X.isOpen], cellsR bg 24 #[.slice (some ⟨b1, o1, none⟩) f.ns.length ca, .int .i64 f.root], mapsR (cs ++ [⟨X, ax, X.args.length, cx, none, 0⟩])]) → G 4 (bt 32 268435455) ((((((((((a0.put (some 62) (.slice (some ⟨b62, 0, none⟩) 1 1)).put (some 63) (.slice a63 (k + 1) c63)).put (some 68) (.slice (some ⟨b68, 0, none⟩) 1 1)).put (some 69) (.slice a69 (k + 1) c69)).put (some 75) (.slice (some ⟨b75, 0, none⟩) 1 1)).put (some 76) (.slice a76 (k + 1) c76)).put (some 77) (.pointer (some ⟨s, 0, none⟩))).put (some 78) (.pointer (some ⟨s, 0, none⟩))).put (some 79) (.pointer (some ⟨s, 0, none⟩))).put (some 80) (.pointer (some ⟨s, 1, none⟩))) wq) := ⟨by
    intro b62 b68 b75 a63 c63 a69 c69 a76 c76 wq HC
    refine into_G hG ?_
    rw [hA.out]
    try simp only [Act.put, zqf, zqg, zqh]
    refine lOne 28 (by kernel_rfl) ?_
    ·
     refine (LFall.op (by kernel_rfl) (fun K hK => ?_))
     have z0 := HC.out.free 1 rfl 1
     have y0 := HC.out.cell 1 rfl 1 rfl
     have HN := Tre.hid (HC.out.setCell 1 rfl 1 (.slice a69 (k + 1) c69))
     go_simp
     clear z0 y0
     generalize hw : wq.setCell ⟨s, 1, none⟩ _ = wr at HN ⊢
     clear hw
     refine hK.out _ _ ?_
     refine lPv 29 (some 81) (.pointer (some ⟨s, 0, none⟩)) (keep_fell (by kernel_rfl)) ?_
     refine lPv 30 (some 82) (.pointer (some ⟨s, 2, none⟩)) (keep_fell (by kernel_rfl)) ?_
     exact outof_G hG (Z1.out b62 b68 b75 a63 c63 a69 c69 a76 c76 wr HN) (by kernel_rfl) (by rw [hA.out]; try kernel_rfl)
   ⟩
   have Z3 : Kept (∀ (b62 : Nat) (b68 : Nat) (b75 : Nat) (a63 : Option Addr) (c63 : Nat) (a69 : Option Addr) (c69 : Nat) (a76 : Option Addr) (c76 : Nat) (wq : World), Hid (Mem w wq [cellsR bc 72 #[.int .i64 2, .string X.name, .slice ax X.args.length cx, .map none, .bool X.isOpen], cellsR s 64 #[.slice aO k cO, .slice aR k cR, .slice aH k cH, .slice none 0 0], rowR 3 1 (.slice a63 (k + 1) c63) (k + 1) (((List.range k).map en) ++ [.int .i64 (k : Int)]), rowR 3 1 (.slice a69 (k + 1) c69) (k + 1) (((List.replicate k 0).map en) ++ [.int .i64 0]), rowR 72 5 (.slice a76 (k + 1) c76) (k + 1) ((hasCells cs (List.range k)) ++ [.int .i64 2, .string X.name, .slice ax X.args.length cx, .map none, .bool X.isOpen]), cellsR bn 40 #[.int .i64 2, .string X.name, .slice ax X.args.length cx, .slice lx X.labels.length dx, .bool X.isOpen], cellsR bg 24 #[.slice (some ⟨b1, o1, none⟩) f.ns.length ca, .int .i64 f.root], mapsR (cs ++ [⟨X, ax, X.args.length, cx, none, 0⟩])]) → G 7 (bt 32 33554431) ((((((((a0.put (some 62) (.slice (some ⟨b62, 0, none⟩) 1 1)).put (some 63) (.slice a63 (k + 1) c63)).put (some 68) (.slice (some ⟨b68, 0, none⟩) 1 1)).put (some 69) (.slice a69 (k + 1) c69)).put (some 75) (.slice (some ⟨b75, 0, none⟩) 1 1)).put (some 76) (.slice a76 (k + 1) c76)).put (some 77) (.pointer (some ⟨s, 0, none⟩))).put (some 78) (.pointer (some ⟨s, 0, none⟩))) wq) := ⟨by
    intro b62 b68 b75 a63 c63 a69 c69 a76 c76 wq HC
    refine into_G hG ?_
    rw [hA.out]
    try simp only [Act.put, zqf, zqg, zqh]
    refine lOne 25 (by kernel_rfl) ?_
    ·
     refine (LFall.op (by kernel_rfl) (fun K hK => ?_))
     have z0 := HC.out.free 1 rfl 0
     have y0 := HC.out.cell 1 rfl 0 rfl
     have HN := Tre.hid (HC.out.setCell 1 rfl 0 (.slice a63 (k + 1) c63))
     go_simp
     clear z0 y0
     generalize hw : wq.setCell ⟨s, 0, none⟩ _ = wr at HN ⊢
     clear hw
     refine hK.out _ _ ?_
     refine lPv 26 (some 79) (.pointer (some ⟨s, 0, none⟩)) (keep_fell (by kernel_rfl)) ?_
     refine lPv 27 (some 80) (.pointer (some ⟨s, 1, none⟩)) (keep_fell (by kernel_rfl)) ?_
     exact outof_G hG (Z2.out b62 b68 b75 a63 c63 a69 c69 a76 c76 wr HN) (by kernel_rfl) (by rw [hA.out]; try kernel_rfl)
   ⟩
   have Z4 : Kept (∀ (b62 : Nat) (b68 : Nat) (b75 : Nat) (a63 : Option Addr) (c63 : Nat) (a69 : Option Addr) (c69 : Nat) (wq : World), Hid (Mem w wq [rowR 72 5 (.slice (some ⟨b75, 0, none⟩) 1 1) 1 [.int .i64 2, .string X.name, .slice ax X.args.length cx, .map none, .bool X.isOpen], cellsR bc 72 #[.int .i64 2, .string X.name, .slice ax X.args.length cx, .map none, .bool X.isOpen], cellsR s 64 #[.slice aO k cO, .slice aR k cR, .slice aH k cH, .slice none 0 0], rowR 3 1 (.slice a63 (k + 1) c63) (k + 1) (((List.range k).map en) ++ [.int .i64 (k : Int)]), rowR 3 1 (.slice a69 (k + 1) c69) (k + 1) (((List.replicate k 0).map en) ++ [.int .i64 0]), rowR 72 5 (.slice aH k cH) k (hasCells cs (List.range k)), cellsR bn 40 #[.int .i64 2, .string X.name, .slice ax X.args.length cx, .slice lx X.labels.length dx, .bool X.isOpen], cellsR bg 24 #[.slice (some ⟨b1, o1, none⟩) f.ns.length ca, .int .i64 f.root], mapsR (cs ++ [⟨X, ax, X.args.length, cx, none, 0⟩])]) → G 10 (bt 32 4194303) (((((a0.put (some 62) (.slice (some ⟨b62, 0, none⟩) 1 1)).put (some 63) (.slice a63 (k + 1) c63)).put (some 68) (.slice (some ⟨b68, 0, none⟩) 1 1)).put (some 69) (.slice a69 (k + 1) c69)).put (some 75) (.slice (some ⟨b75, 0, none⟩) 1 1)) wq) := ⟨by
    intro b62 b68 b75 a63 c63 a69 c69 wq HC
    refine into_G hG ?_
    rw [hA.out]
    have hH := cS.is (w := wq) (⟨HC.out.cell 2 rfl 0 rfl, HC.out.cell 2 rfl 1 rfl, HC.out.cell 2 rfl 2 rfl, HC.out.cell 1 rfl 0 rfl, HC.out.cell 1 rfl 1 rfl, HC.out.cell 1 rfl 2 rfl, HC.out.cell 1 rfl 3 rfl, HC.out.cell 1 rfl 4 rfl⟩)
    refine lOne 22 (by kernel_rfl) ?_
    ·
     refine LFall.app (by kernel_rfl) (some 76) (.tmp 73) (.tmp 75) 62 (by kernel_rfl) 72 ci _ 5 64 Tryz.underlying62 Q1.out Q2.out Q3.out Q4.out rfl (by omega) (.slice aH k cH) k (hasCells cs (List.range k)) (by kernel_rfl) (HC.out.row 5 rfl) (some ⟨b75, 0, none⟩) 1 1 [.int .i64 2, .string X.name, .slice ax X.args.length cx, .map none, .bool X.isOpen] (by kernel_rfl) (nrowS (HC.out.row 0 rfl)) (by simp [Value.oneCell']) (by unfold maxLen; omega) (by omega) ?_
     intro v' wr hown4 hgrow4 hat4
     have M4 := HC.out.grow 5 rfl hgrow4 hown4 hat4
     obtain ⟨a76, c76, rfl, _⟩ := M4.val 5 rfl
     have HN := Tre.hid (M4.del 0)
     clear M4 hown4 hgrow4 hat4
     refine lPv 23 (some 77) (.pointer (some ⟨s, 0, none⟩)) (keep_fell (by kernel_rfl)) ?_
     refine lPv 24 (some 78) (.pointer (some ⟨s, 0, none⟩)) (keep_fell (by kernel_rfl)) ?_
     exact outof_G hG (Z3.out b62 b68 b75 a63 c63 a69 c69 a76 c76 wr HN) (by kernel_rfl) (by rw [hA.out]; try kernel_rfl)
   ⟩
   have Z5 : Kept (∀ (b62 : Nat) (b68 : Nat) (a63 : Option Addr) (c63 : Nat) (a69 : Option Addr) (c69 : Nat) (wq : World), Hid (Mem w wq [cellsR bc 72 #[.int .i64 2, .string X.name, .slice ax X.args.length cx, .map none, .bool X.isOpen], cellsR s 64 #[.slice aO k cO, .slice aR k cR, .slice aH k cH, .slice none 0 0], rowR 3 1 (.slice a63 (k + 1) c63) (k + 1) (((List.range k).map en) ++ [.int .i64 (k : Int)]), rowR 3 1 (.slice a69 (k + 1) c69) (k + 1) (((List.replicate k 0).map en) ++ [.int .i64 0]), rowR 72 5 (.slice aH k cH) k (hasCells cs (List.range k)), cellsR bn 40 #[.int .i64 2, .string X.name, .slice ax X.args.length cx, .slice lx X.labels.length dx, .bool X.isOpen], cellsR bg 24 #[.slice (some ⟨b1, o1, none⟩) f.ns.length ca, .int .i64 f.root], mapsR (cs ++ [⟨X, ax, X.args.length, cx, none, 0⟩])]) → G 11 (bt 32 2097151) ((((a0.put (some 62) (.slice (some ⟨b62, 0, none⟩) 1 1)).put (some 63) (.slice a63 (k + 1) c63)).put (some 68) (.slice (some ⟨b68, 0, none⟩) 1 1)).put (some 69) (.slice a69 (k + 1) c69)) wq) := ⟨by
    intro b62 b68 a63 c63 a69 c69 wq HC
    refine into_G hG ?_
    rw [hA.out]
    have hH := cS.is (w := wq) (⟨HC.out.cell 1 rfl 0 rfl, HC.out.cell 1 rfl 1 rfl, HC.out.cell 1 rfl 2 rfl, HC.out.cell 0 rfl 0 rfl, HC.out.cell 0 rfl 1 rfl, HC.out.cell 0 rfl 2 rfl, HC.out.cell 0 rfl 3 rfl, HC.out.cell 0 rfl 4 rfl⟩)
    refine lOne 21 (by kernel_rfl) ?_
    ·
     have HN := Tre.hid (HC.out.allocRow #[.int .i64 2, .string X.name, .slice ax X.args.length cx, .map none, .bool X.isOpen] 72 5 1 (by unfold maxLen; omega) rfl)
     have hH2 := cS.is (w := (wq.alloc (.cells #[.int .i64 2, .string X.name, .slice ax X.args.length cx, .map none, .bool X.isOpen] 72))) (⟨HN.out.cell 2 rfl 0 rfl, HN.out.cell 2 rfl 1 rfl, HN.out.cell 2 rfl 2 rfl, HN.out.cell 1 rfl 0 rfl, HN.out.cell 1 rfl 1 rfl, HN.out.cell 1 rfl 2 rfl, HN.out.cell 1 rfl 3 rfl, HN.out.cell 1 rfl 4 rfl⟩)
     refine LStep.made (some 75) (.slice (some ⟨wq.heap.size, 0, none⟩) 1 1) _ (by kernel_rfl) (by kernel_rfl) hH2 ?_
     exact outof_G hG (Z4.out b62 b68 wq.heap.size a63 c63 a69 c69 _ HN) (by kernel_rfl) (by rw [hA.out]; try kernel_rfl)
   ⟩
   have Z6 : Kept (∀ (b62 : Nat) (b68 : Nat) (b75 : Nat) (a63 : Option Addr) (c63 : Nat) (wq : World), Hid (Mem w wq [rowR 3 1 (.slice (some ⟨b68, 0, none⟩) 1 1) 1 [.int .i64 0], rowR 72 5 (.slice (some ⟨b75, 0, none⟩) 1 1) 1 [.int .i64 2, .string X.name, .slice ax X.args.length cx, .map none, .bool X.isOpen], cellsR bc 72 #[.int .i64 2, .string X.name, .slice ax X.args.length cx, .map none, .bool X.isOpen], cellsR s 64 #[.slice aO k cO, .slice aR k cR, .slice aH k cH, .slice none 0 0], rowR 3 1 (.slice a63 (k + 1) c63) (k + 1) (((List.range k).map en) ++ [.int .i64 (k : Int)]), rowR 3 1 (.slice aR k cR) k ((List.replicate k 0).map en), rowR 72 5 (.slice aH k cH) k (hasCells cs (List.range k)), cellsR bn 40 #[.int .i64 2, .string X.name, .slice ax X.args.length cx, .slice lx X.labels.length dx, .bool X.isOpen], cellsR bg 24 #[.slice (some ⟨b1, o1, none⟩) f.ns.length ca, .int .i64 f.root], mapsR (cs ++ [⟨X, ax, X.args.length, cx, none, 0⟩])]) → G 11 (bt 32 4161535) ((((a0.put (some 62) (.slice (some ⟨b62, 0, none⟩) 1 1)).put (some 63) (.slice a63 (k + 1) c63)).put (some 68) (.slice (some ⟨b68, 0, none⟩) 1 1)).put (some 75) (.slice (some ⟨b75, 0, none⟩) 1 1)) wq) := ⟨by
    intro b62 b68 b75 a63 c63 wq HC
    refine into_G hG ?_
    rw [hA.out]
    have hH := cS.is (w := wq) (⟨HC.out.cell 3 rfl 0 rfl, HC.out.cell 3 rfl 1 rfl, HC.out.cell 3 rfl 2 rfl, HC.out.cell 2 rfl 0 rfl, HC.out.cell 2 rfl 1 rfl, HC.out.cell 2 rfl 2 rfl, HC.out.cell 2 rfl 3 rfl, HC.out.cell 2 rfl 4 rfl⟩)
    refine lOne 15 (by kernel_rfl) ?_
    ·
     refine LStep.app (some 69) (.tmp 67) (.tmp 68) 31 (by kernel_rfl) 3 ji _ 1 8 Tryz.underlying31 L1.out L2.out L3.out L4.out rfl (by omega) (.slice aR k cR) k ((List.replicate k 0).map en) (by kernel_rfl) (HC.out.row 5 rfl) (some ⟨b68, 0, none⟩) 1 1 [.int .i64 0] (by kernel_rfl) (nrowS (HC.out.row 0 rfl)) (by simp [Value.oneCell']) (by unfold maxLen; omega) (by omega) ?_
     intro v' wr hown4 hgrow4 hat4
     have M4 := HC.out.grow 5 rfl hgrow4 hown4 hat4
     obtain ⟨a69, c69, rfl, _⟩ := M4.val 5 rfl
     have HN := Tre.hid (M4.del 0)
     clear M4 hown4 hgrow4 hat4
     refine ⟨⟨HN.out.cell 2 rfl 0 rfl, HN.out.cell 2 rfl 1 rfl, HN.out.cell 2 rfl 2 rfl, HN.out.cell 1 rfl 0 rfl, HN.out.cell 1 rfl 1 rfl, HN.out.cell 1 rfl 2 rfl, HN.out.cell 1 rfl 3 rfl, HN.out.cell 1 rfl 4 rfl⟩, fun hH2 => ?_⟩
     exact outof_G hG (Z4.out b62 b68 b75 a63 c63 a69 c69 wr HN) (by kernel_rfl) (by rw [hA.out]; try kernel_rfl)
   ⟩
   have Z7 : Kept (∀ (b62 : Nat) (b68 : Nat) (a63 : Option Addr) (c63 : Nat) (wq : World), Hid (Mem w wq [rowR 3 1 (.slice (some ⟨b68, 0, none⟩) 1 1) 1 [.int .i64 0], cellsR bc 72 #[.int .i64 2, .string X.name, .slice ax X.args.length cx, .map none, .bool X.isOpen], cellsR s 64 #[.slice aO k cO, .slice aR k cR, .slice aH k cH, .slice none 0 0], rowR 3 1 (.slice a63 (k + 1) c63) (k + 1) (((List.range k).map en) ++ [.int .i64 (k : Int)]), rowR 3 1 (.slice aR k cR) k ((List.replicate k 0).map en), rowR 72 5 (.slice aH k cH) k (hasCells cs (List.range k)), cellsR bn 40 #[.int .i64 2, .string X.name, .slice ax X.args.length cx, .slice lx X.labels.length dx, .bool X.isOpen], cellsR bg 24 #[.slice (some ⟨b1, o1, none⟩) f.ns.length ca, .int .i64 f.root], mapsR (cs ++ [⟨X, ax, X.args.length, cx, none, 0⟩])]) → G 12 (bt 32 2064383) (((a0.put (some 62) (.slice (some ⟨b62, 0, none⟩) 1 1)).put (some 63) (.slice a63 (k + 1) c63)).put (some 68) (.slice (some ⟨b68, 0, none⟩) 1 1)) wq) := ⟨by
    intro b62 b68 a63 c63 wq HC
    refine into_G hG ?_
    rw [hA.out]
    have hH := cS.is (w := wq) (⟨HC.out.cell 2 rfl 0 rfl, HC.out.cell 2 rfl 1 rfl, HC.out.cell 2 rfl 2 rfl, HC.out.cell 1 rfl 0 rfl, HC.out.cell 1 rfl 1 rfl, HC.out.cell 1 rfl 2 rfl, HC.out.cell 1 rfl 3 rfl, HC.out.cell 1 rfl 4 rfl⟩)
    refine lTwo 15 21 (by kernel_rfl) ?_ ?_
    ·
     refine LStep.app (some 69) (.tmp 67) (.tmp 68) 31 (by kernel_rfl) 3 ji _ 1 8 Tryz.underlying31 L1.out L2.out L3.out L4.out rfl (by omega) (.slice aR k cR) k ((List.replicate k 0).map en) (by kernel_rfl) (HC.out.row 4 rfl) (some ⟨b68, 0, none⟩) 1 1 [.int .i64 0] (by kernel_rfl) (nrowS (HC.out.row 0 rfl)) (by simp [Value.oneCell']) (by unfold maxLen; omega) (by omega) ?_
     intro v' wr hown4 hgrow4 hat4
     have M4 := HC.out.grow 4 rfl hgrow4 hown4 hat4
     obtain ⟨a69, c69, rfl, _⟩ := M4.val 4 rfl
     have HN := Tre.hid (M4.del 0)
     clear M4 hown4 hgrow4 hat4
     refine ⟨⟨HN.out.cell 1 rfl 0 rfl, HN.out.cell 1 rfl 1 rfl, HN.out.cell 1 rfl 2 rfl, HN.out.cell 0 rfl 0 rfl, HN.out.cell 0 rfl 1 rfl, HN.out.cell 0 rfl 2 rfl, HN.out.cell 0 rfl 3 rfl, HN.out.cell 0 rfl 4 rfl⟩, fun hH2 => ?_⟩
     exact outof_G hG (Z5.out b62 b68 a63 c63 a69 c69 wr HN) (by kernel_rfl) (by rw [hA.out]; try kernel_rfl)
    ·
     have HN := Tre.hid (HC.out.allocRow #[.int .i64 2, .string X.name, .slice ax X.args.length cx, .map none, .bool X.isOpen] 72 5 1 (by unfold maxLen; omega) rfl)
     have HC := Tre.hid ((HN.out.front 0 rfl).front 1 rfl)
     clear HN
     have hH2 := cS.is (w := (wq.alloc (.cells #[.int .i64 2, .string X.name, .slice ax X.args.length cx, .map none, .bool X.isOpen] 72))) (⟨HC.out.cell 3 rfl 0 rfl, HC.out.cell 3 rfl 1 rfl, HC.out.cell 3 rfl 2 rfl, HC.out.cell 2 rfl 0 rfl, HC.out.cell 2 rfl 1 rfl, HC.out.cell 2 rfl 2 rfl, HC.out.cell 2 rfl 3 rfl, HC.out.cell 2 rfl 4 rfl⟩)
     refine LStep.made (some 75) (.slice (some ⟨wq.heap.size, 0, none⟩) 1 1) _ (by kernel_rfl) (by kernel_rfl) hH2 ?_
     exact outof_G hG (Z6.out b62 b68 wq.heap.size a63 c63 _ HC) (by kernel_rfl) (by rw [hA.out]; try kernel_rfl)
   ⟩
   have Z8 : Kept (∀ (b62 : Nat) (b75 : Nat) (a63 : Option Addr) (c63 : Nat) (wq : World), Hid (Mem w wq [rowR 72 5 (.slice (some ⟨b75, 0, none⟩) 1 1) 1 [.int .i64 2, .string X.name, .slice ax X.args.length cx, .map none, .bool X.isOpen], cellsR bc 72 #[.int .i64 2, .string X.name, .slice ax X.args.length cx, .map none, .bool X.isOpen], cellsR s 64 #[.slice aO k cO, .slice aR k cR, .slice aH k cH, .slice none 0 0], rowR 3 1 (.slice a63 (k + 1) c63) (k + 1) (((List.range k).map en) ++ [.int .i64 (k : Int)]), rowR 3 1 (.slice aR k cR) k ((List.replicate k 0).map en), rowR 72 5 (.slice aH k cH) k (hasCells cs (List.range k)), cellsR bn 40 #[.int .i64 2, .string X.name, .slice ax X.args.length cx, .slice lx X.labels.length dx, .bool X.isOpen], cellsR bg 24 #[.slice (some ⟨b1, o1, none⟩) f.ns.length ca, .int .i64 f.root], mapsR (cs ++ [⟨X, ax, X.args.length, cx, none, 0⟩])]) → G 12 (bt 32 4145151) (((a0.put (some 62) (.slice (some ⟨b62, 0, none⟩) 1 1)).put (some 63) (.slice a63 (k + 1) c63)).put (some 75) (.slice (some ⟨b75, 0, none⟩) 1 1)) wq) := ⟨by
    intro b62 b75 a63 c63 wq HC
    refine into_G hG ?_
    rw [hA.out]
    have hH := cS.is (w := wq) (⟨HC.out.cell 2 rfl 0 rfl, HC.out.cell 2 rfl 1 rfl, HC.out.cell 2 rfl 2 rfl, HC.out.cell 1 rfl 0 rfl, HC.out.cell 1 rfl 1 rfl, HC.out.cell 1 rfl 2 rfl, HC.out.cell 1 rfl 3 rfl, HC.out.cell 1 rfl 4 rfl⟩)
    refine lOne 14 (by kernel_rfl) ?_
    ·
     have HN := Tre.hid (HC.out.allocRow #[.int .i64 0] 3 1 1 (by unfold maxLen; omega) rfl)
     have hH2 := cS.is (w := (wq.alloc (.cells #[.int .i64 0] 3))) (⟨HN.out.cell 3 rfl 0 rfl, HN.out.cell 3 rfl 1 rfl, HN.out.cell 3 rfl 2 rfl, HN.out.cell 2 rfl 0 rfl, HN.out.cell 2 rfl 1 rfl, HN.out.cell 2 rfl 2 rfl, HN.out.cell 2 rfl 3 rfl, HN.out.cell 2 rfl 4 rfl⟩)
     refine LStep.made (some 68) (.slice (some ⟨wq.heap.size, 0, none⟩) 1 1) _ (by kernel_rfl) (by kernel_rfl) hH2 ?_
     exact outof_G hG (Z6.out b62 wq.heap.size b75 a63 c63 _ HN) (by kernel_rfl) (by rw [hA.out]; try kernel_rfl)
   ⟩
   have Z9 : Kept (∀ (b62 : Nat) (b68 : Nat) (b75 : Nat) (wq : World), Hid (Mem w wq [rowR 3 1 (.slice (some ⟨b62, 0, none⟩) 1 1) 1 [.int .i64 (k : Int)], rowR 3 1 (.slice (some ⟨b68, 0, none⟩) 1 1) 1 [.int .i64 0], rowR 72 5 (.slice (some ⟨b75, 0, none⟩) 1 1) 1 [.int .i64 2, .string X.name, .slice ax X.args.length cx, .map none, .bool X.isOpen], cellsR bc 72 #[.int .i64 2, .string X.name, .slice ax X.args.length cx, .map none, .bool X.isOpen], cellsR s 64 #[.slice aO k cO, .slice aR k cR, .slice aH k cH, .slice none 0 0], rowR 3 1 (.slice aO k cO) k ((List.range k).map en), rowR 3 1 (.slice aR k cR) k ((List.replicate k 0).map en), rowR 72 5 (.slice aH k cH) k (hasCells cs (List.range k)), cellsR bn 40 #[.int .i64 2, .string X.name, .slice ax X.args.length cx, .slice lx X.labels.length dx, .bool X.isOpen], cellsR bg 24 #[.slice (some ⟨b1, o1, none⟩) f.ns.length ca, .int .i64 f.root], mapsR (cs ++ [⟨X, ax, X.args.length, cx, none, 0⟩])]) → G 12 (bt 32 4161023) (((a0.put (some 62) (.slice (some ⟨b62, 0, none⟩) 1 1)).put (some 68) (.slice (some ⟨b68, 0, none⟩) 1 1)).put (some 75) (.slice (some ⟨b75, 0, none⟩) 1 1)) wq) := ⟨by
    intro b62 b68 b75 wq HC
    refine into_G hG ?_
    rw [hA.out]
    have hH := cS.is (w := wq) (⟨HC.out.cell 4 rfl 0 rfl, HC.out.cell 4 rfl 1 rfl, HC.out.cell 4 rfl 2 rfl, HC.out.cell 3 rfl 0 rfl, HC.out.cell 3 rfl 1 rfl, HC.out.cell 3 rfl 2 rfl, HC.out.cell 3 rfl 3 rfl, HC.out.cell 3 rfl 4 rfl⟩)
    refine lOne 9 (by kernel_rfl) ?_
    ·
     refine LStep.app (some 63) (.tmp 60) (.tmp 62) 31 (by kernel_rfl) 3 ji _ 1 8 Tryz.underlying31 L1.out L2.out L3.out L4.out rfl (by omega) (.slice aO k cO) k ((List.range k).map en) (by kernel_rfl) (HC.out.row 5 rfl) (some ⟨b62, 0, none⟩) 1 1 [.int .i64 (k : Int)] (by kernel_rfl) (nrowS (HC.out.row 0 rfl)) (by simp [Value.oneCell']) (by unfold maxLen; omega) (by omega) ?_
     intro v' wr hown4 hgrow4 hat4
     have M4 := HC.out.grow 5 rfl hgrow4 hown4 hat4
     obtain ⟨a63, c63, rfl, _⟩ := M4.val 5 rfl
     have HN := Tre.hid (M4.del 0)
     clear M4 hown4 hgrow4 hat4
     refine ⟨⟨HN.out.cell 3 rfl 0 rfl, HN.out.cell 3 rfl 1 rfl, HN.out.cell 3 rfl 2 rfl, HN.out.cell 2 rfl 0 rfl, HN.out.cell 2 rfl 1 rfl, HN.out.cell 2 rfl 2 rfl, HN.out.cell 2 rfl 3 rfl, HN.out.cell 2 rfl 4 rfl⟩, fun hH2 => ?_⟩
     exact outof_G hG (Z6.out b62 b68 b75 a63 c63 wr HN) (by kernel_rfl) (by rw [hA.out]; try kernel_rfl)
   ⟩
   have Z10 : Kept (∀ (b62 : Nat) (a63 : Option Addr) (c63 : Nat) (wq : World), Hid (Mem w wq [cellsR bc 72 #[.int .i64 2, .string X.name, .slice ax X.args.length cx, .map none, .bool X.isOpen], cellsR s 64 #[.slice aO k cO, .slice aR k cR, .slice aH k cH, .slice none 0 0], rowR 3 1 (.slice a63 (k + 1) c63) (k + 1) (((List.range k).map en) ++ [.int .i64 (k : Int)]), rowR 3 1 (.slice aR k cR) k ((List.replicate k 0).map en), rowR 72 5 (.slice aH k cH) k (hasCells cs (List.range k)), cellsR bn 40 #[.int .i64 2, .string X.name, .slice ax X.args.length cx, .slice lx X.labels.length dx, .bool X.isOpen], cellsR bg 24 #[.slice (some ⟨b1, o1, none⟩) f.ns.length ca, .int .i64 f.root], mapsR (cs ++ [⟨X, ax, X.args.length, cx, none, 0⟩])]) → G 13 (bt 32 2047999) ((a0.put (some 62) (.slice (some ⟨b62, 0, none⟩) 1 1)).put (some 63) (.slice a63 (k + 1) c63)) wq) := ⟨by
    intro b62 a63 c63 wq HC
    refine into_G hG ?_
    rw [hA.out]
    have hH := cS.is (w := wq) (⟨HC.out.cell 1 rfl 0 rfl, HC.out.cell 1 rfl 1 rfl, HC.out.cell 1 rfl 2 rfl, HC.out.cell 0 rfl 0 rfl, HC.out.cell 0 rfl 1 rfl, HC.out.cell 0 rfl 2 rfl, HC.out.cell 0 rfl 3 rfl, HC.out.cell 0 rfl 4 rfl⟩)
    refine lTwo 14 21 (by kernel_rfl) ?_ ?_
    ·
     have HN := Tre.hid (HC.out.allocRow #[.int .i64 0] 3 1 1 (by unfold maxLen; omega) rfl)
     have hH2 := cS.is (w := (wq.alloc (.cells #[.int .i64 0] 3))) (⟨HN.out.cell 2 rfl 0 rfl, HN.out.cell 2 rfl 1 rfl, HN.out.cell 2 rfl 2 rfl, HN.out.cell 1 rfl 0 rfl, HN.out.cell 1 rfl 1 rfl, HN.out.cell 1 rfl 2 rfl, HN.out.cell 1 rfl 3 rfl, HN.out.cell 1 rfl 4 rfl⟩)
     refine LStep.made (some 68) (.slice (some ⟨wq.heap.size, 0, none⟩) 1 1) _ (by kernel_rfl) (by kernel_rfl) hH2 ?_
     exact outof_G hG (Z7.out b62 wq.heap.size a63 c63 _ HN) (by kernel_rfl) (by rw [hA.out]; try kernel_rfl)
    ·
     have HN := Tre.hid (HC.out.allocRow #[.int .i64 2, .string X.name, .slice ax X.args.length cx, .map none, .bool X.isOpen] 72 5 1 (by unfold maxLen; omega) rfl)
     have hH2 := cS.is (w := (wq.alloc (.cells #[.int .i64 2, .string X.name, .slice ax X.args.length cx, .map none, .bool X.isOpen] 72))) (⟨HN.out.cell 2 rfl 0 rfl, HN.out.cell 2 rfl 1 rfl, HN.out.cell 2 rfl 2 rfl, HN.out.cell 1 rfl 0 rfl, HN.out.cell 1 rfl 1 rfl, HN.out.cell 1 rfl 2 rfl, HN.out.cell 1 rfl 3 rfl, HN.out.cell 1 rfl 4 rfl⟩)
     refine LStep.made (some 75) (.slice (some ⟨wq.heap.size, 0, none⟩) 1 1) _ (by kernel_rfl) (by kernel_rfl) hH2 ?_
     exact outof_G hG (Z8.out b62 wq.heap.size a63 c63 _ HN) (by kernel_rfl) (by rw [hA.out]; try kernel_rfl)
   ⟩
   have Z11 : Kept (∀ (b62 : Nat) (b68 : Nat) (wq : World), Hid (Mem w wq [rowR 3 1 (.slice (some ⟨b62, 0, none⟩) 1 1) 1 [.int .i64 (k : Int)], rowR 3 1 (.slice (some ⟨b68, 0, none⟩) 1 1) 1 [.int .i64 0], cellsR bc 72 #[.int .i64 2, .string X.name, .slice ax X.args.length cx, .map none, .bool X.isOpen], cellsR s 64 #[.slice aO k cO, .slice aR k cR, .slice aH k cH, .slice none 0 0], rowR 3 1 (.slice aO k cO) k ((List.range k).map en), rowR 3 1 (.slice aR k cR) k ((List.replicate k 0).map en), rowR 72 5 (.slice aH k cH) k (hasCells cs (List.range k)), cellsR bn 40 #[.int .i64 2, .string X.name, .slice ax X.args.length cx, .slice lx X.labels.length dx, .bool X.isOpen], cellsR bg 24 #[.slice (some ⟨b1, o1, none⟩) f.ns.length ca, .int .i64 f.root], mapsR (cs ++ [⟨X, ax, X.args.length, cx, none, 0⟩])]) → G 13 (bt 32 2063871) ((a0.put (some 62) (.slice (some ⟨b62, 0, none⟩) 1 1)).put (some 68) (.slice (some ⟨b68, 0, none⟩) 1 1)) wq) := ⟨by
    intro b62 b68 wq HC
    refine into_G hG ?_
    rw [hA.out]
    have hH := cS.is (w := wq) (⟨HC.out.cell 3 rfl 0 rfl, HC.out.cell 3 rfl 1 rfl, HC.out.cell 3 rfl 2 rfl, HC.out.cell 2 rfl 0 rfl, HC.out.cell 2 rfl 1 rfl, HC.out.cell 2 rfl 2 rfl, HC.out.cell 2 rfl 3 rfl, HC.out.cell 2 rfl 4 rfl⟩)
    refine lTwo 9 21 (by kernel_rfl) ?_ ?_
    ·
     refine LStep.app (some 63) (.tmp 60) (.tmp 62) 31 (by kernel_rfl) 3 ji _ 1 8 Tryz.underlying31 L1.out L2.out L3.out L4.out rfl (by omega) (.slice aO k cO) k ((List.range k).map en) (by kernel_rfl) (HC.out.row 4 rfl) (some ⟨b62, 0, none⟩) 1 1 [.int .i64 (k : Int)] (by kernel_rfl) (nrowS (HC.out.row 0 rfl)) (by simp [Value.oneCell']) (by unfold maxLen; omega) (by omega) ?_
     intro v' wr hown4 hgrow4 hat4
     have M4 := HC.out.grow 4 rfl hgrow4 hown4 hat4
     obtain ⟨a63, c63, rfl, _⟩ := M4.val 4 rfl
     have HN := Tre.hid (M4.del 0)
     clear M4 hown4 hgrow4 hat4
     refine ⟨⟨HN.out.cell 2 rfl 0 rfl, HN.out.cell 2 rfl 1 rfl, HN.out.cell 2 rfl 2 rfl, HN.out.cell 1 rfl 0 rfl, HN.out.cell 1 rfl 1 rfl, HN.out.cell 1 rfl 2 rfl, HN.out.cell 1 rfl 3 rfl, HN.out.cell 1 rfl 4 rfl⟩, fun hH2 => ?_⟩
     exact outof_G hG (Z7.out b62 b68 a63 c63 wr HN) (by kernel_rfl) (by rw [hA.out]; try kernel_rfl)
    ·
     have HN := Tre.hid (HC.out.allocRow #[.int .i64 2, .string X.name, .slice ax X.args.length cx, .map none, .bool X.isOpen] 72 5 1 (by unfold maxLen; omega) rfl)
     have HC := Tre.hid (((HN.out.front 0 rfl).front 2 rfl).front 2 rfl)
     clear HN
     have hH2 := cS.is (w := (wq.alloc (.cells #[.int .i64 2, .string X.name, .slice ax X.args.length cx, .map none, .bool X.isOpen] 72))) (⟨HC.out.cell 4 rfl 0 rfl, HC.out.cell 4 rfl 1 rfl, HC.out.cell 4 rfl 2 rfl, HC.out.cell 3 rfl 0 rfl, HC.out.cell 3 rfl 1 rfl, HC.out.cell 3 rfl 2 rfl, HC.out.cell 3 rfl 3 rfl, HC.out.cell 3 rfl 4 rfl⟩)
     refine LStep.made (some 75) (.slice (some ⟨wq.heap.size, 0, none⟩) 1 1) _ (by kernel_rfl) (by kernel_rfl) hH2 ?_
     exact outof_G hG (Z9.out b62 b68 wq.heap.size _ HC) (by kernel_rfl) (by rw [hA.out]; try kernel_rfl)
   ⟩
   have Z12 : Kept (∀ (b62 : Nat) (b75 : Nat) (wq : World), Hid (Mem w wq [rowR 3 1 (.slice (some ⟨b62, 0, none⟩) 1 1) 1 [.int .i64 (k : Int)], rowR 72 5 (.slice (some ⟨b75, 0, none⟩) 1 1) 1 [.int .i64 2, .string X.name, .slice ax X.args.length cx, .map none, .bool X.isOpen], cellsR bc 72 #[.int .i64 2, .string X.name, .slice ax X.args.length cx, .map none, .bool X.isOpen], cellsR s 64 #[.slice aO k cO, .slice aR k cR, .slice aH k cH, .slice none 0 0], rowR 3 1 (.slice aO k cO) k ((List.range k).map en), rowR 3 1 (.slice aR k cR) k ((List.replicate k 0).map en), rowR 72 5 (.slice aH k cH) k (hasCells cs (List.range k)), cellsR bn 40 #[.int .i64 2, .string X.name, .slice ax X.args.length cx, .slice lx X.labels.length dx, .bool X.isOpen], cellsR bg 24 #[.slice (some ⟨b1, o1, none⟩) f.ns.length ca, .int .i64 f.root], mapsR (cs ++ [⟨X, ax, X.args.length, cx, none, 0⟩])]) → G 13 (bt 32 4144639) ((a0.put (some 62) (.slice (some ⟨b62, 0, none⟩) 1 1)).put (some 75) (.slice (some ⟨b75, 0, none⟩) 1 1)) wq) := ⟨by
    intro b62 b75 wq HC
    refine into_G hG ?_
    rw [hA.out]
    have hH := cS.is (w := wq) (⟨HC.out.cell 3 rfl 0 rfl, HC.out.cell 3 rfl 1 rfl, HC.out.cell 3 rfl 2 rfl, HC.out.cell 2 rfl 0 rfl, HC.out.cell 2 rfl 1 rfl, HC.out.cell 2 rfl 2 rfl, HC.out.cell 2 rfl 3 rfl, HC.out.cell 2 rfl 4 rfl⟩)
    refine lTwo 9 14 (by kernel_rfl) ?_ ?_
    ·
     refine LStep.app (some 63) (.tmp 60) (.tmp 62) 31 (by kernel_rfl) 3 ji _ 1 8 Tryz.underlying31 L1.out L2.out L3.out L4.out rfl (by omega) (.slice aO k cO) k ((List.range k).map en) (by kernel_rfl) (HC.out.row 4 rfl) (some ⟨b62, 0, none⟩) 1 1 [.int .i64 (k : Int)] (by kernel_rfl) (nrowS (HC.out.row 0 rfl)) (by simp [Value.oneCell']) (by unfold maxLen; omega) (by omega) ?_
     intro v' wr hown4 hgrow4 hat4
     have M4 := HC.out.grow 4 rfl hgrow4 hown4 hat4
     obtain ⟨a63, c63, rfl, _⟩ := M4.val 4 rfl
     have HN := Tre.hid (M4.del 0)
     clear M4 hown4 hgrow4 hat4
     refine ⟨⟨HN.out.cell 2 rfl 0 rfl, HN.out.cell 2 rfl 1 rfl, HN.out.cell 2 rfl 2 rfl, HN.out.cell 1 rfl 0 rfl, HN.out.cell 1 rfl 1 rfl, HN.out.cell 1 rfl 2 rfl, HN.out.cell 1 rfl 3 rfl, HN.out.cell 1 rfl 4 rfl⟩, fun hH2 => ?_⟩
     exact outof_G hG (Z8.out b62 b75 a63 c63 wr HN) (by kernel_rfl) (by rw [hA.out]; try kernel_rfl)
    ·
     have HN := Tre.hid (HC.out.allocRow #[.int .i64 0] 3 1 1 (by unfold maxLen; omega) rfl)
     have HC := Tre.hid ((HN.out.front 0 rfl).front 1 rfl)
     clear HN
     have hH2 := cS.is (w := (wq.alloc (.cells #[.int .i64 0] 3))) (⟨HC.out.cell 4 rfl 0 rfl, HC.out.cell 4 rfl 1 rfl, HC.out.cell 4 rfl 2 rfl, HC.out.cell 3 rfl 0 rfl, HC.out.cell 3 rfl 1 rfl, HC.out.cell 3 rfl 2 rfl, HC.out.cell 3 rfl 3 rfl, HC.out.cell 3 rfl 4 rfl⟩)
     refine LStep.made (some 68) (.slice (some ⟨wq.heap.size, 0, none⟩) 1 1) _ (by kernel_rfl) (by kernel_rfl) hH2 ?_
     exact outof_G hG (Z9.out b62 wq.heap.size b75 _ HC) (by kernel_rfl) (by rw [hA.out]; try kernel_rfl)
   ⟩
   have Z13 : Kept (∀ (b68 : Nat) (b75 : Nat) (wq : World), Hid (Mem w wq [rowR 3 1 (.slice (some ⟨b68, 0, none⟩) 1 1) 1 [.int .i64 0], rowR 72 5 (.slice (some ⟨b75, 0, none⟩) 1 1) 1 [.int .i64 2, .string X.name, .slice ax X.args.length cx, .map none, .bool X.isOpen], cellsR bc 72 #[.int .i64 2, .string X.name, .slice ax X.args.length cx, .map none, .bool X.isOpen], cellsR s 64 #[.slice aO k cO, .slice aR k cR, .slice aH k cH, .slice none 0 0], rowR 3 1 (.slice aO k cO) k ((List.range k).map en), rowR 3 1 (.slice aR k cR) k ((List.replicate k 0).map en), rowR 72 5 (.slice aH k cH) k (hasCells cs (List.range k)), cellsR bn 40 #[.int .i64 2, .string X.name, .slice ax X.args.length cx, .slice lx X.labels.length dx, .bool X.isOpen], cellsR bg 24 #[.slice (some ⟨b1, o1, none⟩) f.ns.length ca, .int .i64 f.root], mapsR (cs ++ [⟨X, ax, X.args.length, cx, none, 0⟩])]) → G 13 (bt 32 4160767) ((a0.put (some 68) (.slice (some ⟨b68, 0, none⟩) 1 1)).put (some 75) (.slice (some ⟨b75, 0, none⟩) 1 1)) wq) := ⟨by
    intro b68 b75 wq HC
    refine into_G hG ?_
    rw [hA.out]
    have hH := cS.is (w := wq) (⟨HC.out.cell 3 rfl 0 rfl, HC.out.cell 3 rfl 1 rfl, HC.out.cell 3 rfl 2 rfl, HC.out.cell 2 rfl 0 rfl, HC.out.cell 2 rfl 1 rfl, HC.out.cell 2 rfl 2 rfl, HC.out.cell 2 rfl 3 rfl, HC.out.cell 2 rfl 4 rfl⟩)
    refine lOne 8 (by kernel_rfl) ?_
    ·
     have HN := Tre.hid (HC.out.allocRow #[.int .i64 (k : Int)] 3 1 1 (by unfold maxLen; omega) rfl)
     have hH2 := cS.is (w := (wq.alloc (.cells #[.int .i64 (k : Int)] 3))) (⟨HN.out.cell 4 rfl 0 rfl, HN.out.cell 4 rfl 1 rfl, HN.out.cell 4 rfl 2 rfl, HN.out.cell 3 rfl 0 rfl, HN.out.cell 3 rfl 1 rfl, HN.out.cell 3 rfl 2 rfl, HN.out.cell 3 rfl 3 rfl, HN.out.cell 3 rfl 4 rfl⟩)
     refine LStep.made (some 62) (.slice (some ⟨wq.heap.size, 0, none⟩) 1 1) _ (by kernel_rfl) (by kernel_rfl) hH2 ?_
     exact outof_G hG (Z9.out wq.heap.size b68 b75 _ HN) (by kernel_rfl) (by rw [hA.out]; try kernel_rfl)
   ⟩
   have Z14 : Kept (∀ (b62 : Nat) (wq : World), Hid (Mem w wq [rowR 3 1 (.slice (some ⟨b62, 0, none⟩) 1 1) 1 [.int .i64 (k : Int)], cellsR bc 72 #[.int .i64 2, .string X.name, .slice ax X.args.length cx, .map none, .bool X.isOpen], cellsR s 64 #[.slice aO k cO, .slice aR k cR, .slice aH k cH, .slice none 0 0], rowR 3 1 (.slice aO k cO) k ((List.range k).map en), rowR 3 1 (.slice aR k cR) k ((List.replicate k 0).map en), rowR 72 5 (.slice aH k cH) k (hasCells cs (List.range k)), cellsR bn 40 #[.int .i64 2, .string X.name, .slice ax X.args.length cx, .slice lx X.labels.length dx, .bool X.isOpen], cellsR bg 24 #[.slice (some ⟨b1, o1, none⟩) f.ns.length ca, .int .i64 f.root], mapsR (cs ++ [⟨X, ax, X.args.length, cx, none, 0⟩])]) → G 14 (bt 32 2047487) (a0.put (some 62) (.slice (some ⟨b62, 0, none⟩) 1 1)) wq) := ⟨by
    intro b62 wq HC
    refine into_G hG ?_
    rw [hA.out]
    have hH := cS.is (w := wq) (⟨HC.out.cell 2 rfl 0 rfl, HC.out.cell 2 rfl 1 rfl, HC.out.cell 2 rfl 2 rfl, HC.out.cell 1 rfl 0 rfl, HC.out.cell 1 rfl 1 rfl, HC.out.cell 1 rfl 2 rfl, HC.out.cell 1 rfl 3 rfl, HC.out.cell 1 rfl 4 rfl⟩)
    refine lThree 9 14 21 (by kernel_rfl) ?_ ?_ ?_
    ·
     refine LStep.app (some 63) (.tmp 60) (.tmp 62) 31 (by kernel_rfl) 3 ji _ 1 8 Tryz.underlying31 L1.out L2.out L3.out L4.out rfl (by omega) (.slice aO k cO) k ((List.range k).map en) (by kernel_rfl) (HC.out.row 3 rfl) (some ⟨b62, 0, none⟩) 1 1 [.int .i64 (k : Int)] (by kernel_rfl) (nrowS (HC.out.row 0 rfl)) (by simp [Value.oneCell']) (by unfold maxLen; omega) (by omega) ?_
     intro v' wr hown4 hgrow4 hat4
     have M4 := HC.out.grow 3 rfl hgrow4 hown4 hat4
     obtain ⟨a63, c63, rfl, _⟩ := M4.val 3 rfl
     have HN := Tre.hid (M4.del 0)
     clear M4 hown4 hgrow4 hat4
     refine ⟨⟨HN.out.cell 1 rfl 0 rfl, HN.out.cell 1 rfl 1 rfl, HN.out.cell 1 rfl 2 rfl, HN.out.cell 0 rfl 0 rfl, HN.out.cell 0 rfl 1 rfl, HN.out.cell 0 rfl 2 rfl, HN.out.cell 0 rfl 3 rfl, HN.out.cell 0 rfl 4 rfl⟩, fun hH2 => ?_⟩
     exact outof_G hG (Z10.out b62 a63 c63 wr HN) (by kernel_rfl) (by rw [hA.out]; try kernel_rfl)
    ·
     have HN := Tre.hid (HC.out.allocRow #[.int .i64 0] 3 1 1 (by unfold maxLen; omega) rfl)
     have HC := Tre.hid ((HN.out.front 0 rfl).front 1 rfl)
     clear HN
     have hH2 := cS.is (w := (wq.alloc (.cells #[.int .i64 0] 3))) (⟨HC.out.cell 3 rfl 0 rfl, HC.out.cell 3 rfl 1 rfl, HC.out.cell 3 rfl 2 rfl, HC.out.cell 2 rfl 0 rfl, HC.out.cell 2 rfl 1 rfl, HC.out.cell 2 rfl 2 rfl, HC.out.cell 2 rfl 3 rfl, HC.out.cell 2 rfl 4 rfl⟩)
     refine LStep.made (some 68) (.slice (some ⟨wq.heap.size, 0, none⟩) 1 1) _ (by kernel_rfl) (by kernel_rfl) hH2 ?_
     exact outof_G hG (Z11.out b62 wq.heap.size _ HC) (by kernel_rfl) (by rw [hA.out]; try kernel_rfl)
    ·
     have HN := Tre.hid (HC.out.allocRow #[.int .i64 2, .string X.name, .slice ax X.args.length cx, .map none, .bool X.isOpen] 72 5 1 (by unfold maxLen; omega) rfl)
     have HC := Tre.hid ((HN.out.front 0 rfl).front 1 rfl)
     clear HN
     have hH2 := cS.is (w := (wq.alloc (.cells #[.int .i64 2, .string X.name, .slice ax X.args.length cx, .map none, .bool X.isOpen] 72))) (⟨HC.out.cell 3 rfl 0 rfl, HC.out.cell 3 rfl 1 rfl, HC.out.cell 3 rfl 2 rfl, HC.out.cell 2 rfl 0 rfl, HC.out.cell 2 rfl 1 rfl, HC.out.cell 2 rfl 2 rfl, HC.out.cell 2 rfl 3 rfl, HC.out.cell 2 rfl 4 rfl⟩)
     refine LStep.made (some 75) (.slice (some ⟨wq.heap.size, 0, none⟩) 1 1) _ (by kernel_rfl) (by kernel_rfl) hH2 ?_
     exact outof_G hG (Z12.out b62 wq.heap.size _ HC) (by kernel_rfl) (by rw [hA.out]; try kernel_rfl)
   ⟩
   have Z15 : Kept (∀ (b68 : Nat) (wq : World), Hid (Mem w wq [rowR 3 1 (.slice (some ⟨b68, 0, none⟩) 1 1) 1 [.int .i64 0], cellsR bc 72 #[.int .i64 2, .string X.name, .slice ax X.args.length cx, .map none, .bool X.isOpen], cellsR s 64 #[.slice aO k cO, .slice aR k cR, .slice aH k cH, .slice none 0 0], rowR 3 1 (.slice aO k cO) k ((List.range k).map en), rowR 3 1 (.slice aR k cR) k ((List.replicate k 0).map en), rowR 72 5 (.slice aH k cH) k (hasCells cs (List.range k)), cellsR bn 40 #[.int .i64 2, .string X.name, .slice ax X.args.length cx, .slice lx X.labels.length dx, .bool X.isOpen], cellsR bg 24 #[.slice (some ⟨b1, o1, none⟩) f.ns.length ca, .int .i64 f.root], mapsR (cs ++ [⟨X, ax, X.args.length, cx, none, 0⟩])]) → G 14 (bt 32 2063615) (a0.put (some 68) (.slice (some ⟨b68, 0, none⟩) 1 1)) wq) := ⟨by
    intro b68 wq HC
    refine into_G hG ?_
    rw [hA.out]
    have hH := cS.is (w := wq) (⟨HC.out.cell 2 rfl 0 rfl, HC.out.cell 2 rfl 1 rfl, HC.out.cell 2 rfl 2 rfl, HC.out.cell 1 rfl 0 rfl, HC.out.cell 1 rfl 1 rfl, HC.out.cell 1 rfl 2 rfl, HC.out.cell 1 rfl 3 rfl, HC.out.cell 1 rfl 4 rfl⟩)
    refine lTwo 8 21 (by kernel_rfl) ?_ ?_
    ·
     have HN := Tre.hid (HC.out.allocRow #[.int .i64 (k : Int)] 3 1 1 (by unfold maxLen; omega) rfl)
     have hH2 := cS.is (w := (wq.alloc (.cells #[.int .i64 (k : Int)] 3))) (⟨HN.out.cell 3 rfl 0 rfl, HN.out.cell 3 rfl 1 rfl, HN.out.cell 3 rfl 2 rfl, HN.out.cell 2 rfl 0 rfl, HN.out.cell 2 rfl 1 rfl, HN.out.cell 2 rfl 2 rfl, HN.out.cell 2 rfl 3 rfl, HN.out.cell 2 rfl 4 rfl⟩)
     refine LStep.made (some 62) (.slice (some ⟨wq.heap.size, 0, none⟩) 1 1) _ (by kernel_rfl) (by kernel_rfl) hH2 ?_
     exact outof_G hG (Z11.out wq.heap.size b68 _ HN) (by kernel_rfl) (by rw [hA.out]; try kernel_rfl)
    ·
     have HN := Tre.hid (HC.out.allocRow #[.int .i64 2, .string X.name, .slice ax X.args.length cx, .map none, .bool X.isOpen] 72 5 1 (by unfold maxLen; omega) rfl)
     have HC := Tre.hid ((HN.out.front 0 rfl).front 1 rfl)
     clear HN
     have hH2 := cS.is (w := (wq.alloc (.cells #[.int .i64 2, .string X.name, .slice ax X.args.length cx, .map none, .bool X.isOpen] 72))) (⟨HC.out.cell 3 rfl 0 rfl, HC.out.cell 3 rfl 1 rfl, HC.out.cell 3 rfl 2 rfl, HC.out.cell 2 rfl 0 rfl, HC.out.cell 2 rfl 1 rfl, HC.out.cell 2 rfl 2 rfl, HC.out.cell 2 rfl 3 rfl, HC.out.cell 2 rfl 4 rfl⟩)
     refine LStep.made (some 75) (.slice (some ⟨wq.heap.size, 0, none⟩) 1 1) _ (by kernel_rfl) (by kernel_rfl) hH2 ?_
     exact outof_G hG (Z13.out b68 wq.heap.size _ HC) (by kernel_rfl) (by rw [hA.out]; try kernel_rfl)
   ⟩
   have Z16 : Kept (∀ (b75 : Nat) (wq : World), Hid (Mem w wq [rowR 72 5 (.slice (some ⟨b75, 0, none⟩) 1 1) 1 [.int .i64 2, .string X.name, .slice ax X.args.length cx, .map none, .bool X.isOpen], cellsR bc 72 #[.int .i64 2, .string X.name, .slice ax X.args.length cx, .map none, .bool X.isOpen], cellsR s 64 #[.slice aO k cO, .slice aR k cR, .slice aH k cH, .slice none 0 0], rowR 3 1 (.slice aO k cO) k ((List.range k).map en), rowR 3 1 (.slice aR k cR) k ((List.replicate k 0).map en), rowR 72 5 (.slice aH k cH) k (hasCells cs (List.range k)), cellsR bn 40 #[.int .i64 2, .string X.name, .slice ax X.args.length cx, .slice lx X.labels.length dx, .bool X.isOpen], cellsR bg 24 #[.slice (some ⟨b1, o1, none⟩) f.ns.length ca, .int .i64 f.root], mapsR (cs ++ [⟨X, ax, X.args.length, cx, none, 0⟩])]) → G 14 (bt 32 4144383) (a0.put (some 75) (.slice (some ⟨b75, 0, none⟩) 1 1)) wq) := ⟨by
    intro b75 wq HC
    refine into_G hG ?_
    rw [hA.out]
    have hH := cS.is (w := wq) (⟨HC.out.cell 2 rfl 0 rfl, HC.out.cell 2 rfl 1 rfl, HC.out.cell 2 rfl 2 rfl, HC.out.cell 1 rfl 0 rfl, HC.out.cell 1 rfl 1 rfl, HC.out.cell 1 rfl 2 rfl, HC.out.cell 1 rfl 3 rfl, HC.out.cell 1 rfl 4 rfl⟩)
    refine lTwo 8 14 (by kernel_rfl) ?_ ?_
    ·
     have HN := Tre.hid (HC.out.allocRow #[.int .i64 (k : Int)] 3 1 1 (by unfold maxLen; omega) rfl)
     have hH2 := cS.is (w := (wq.alloc (.cells #[.int .i64 (k : Int)] 3))) (⟨HN.out.cell 3 rfl 0 rfl, HN.out.cell 3 rfl 1 rfl, HN.out.cell 3 rfl 2 rfl, HN.out.cell 2 rfl 0 rfl, HN.out.cell 2 rfl 1 rfl, HN.out.cell 2 rfl 2 rfl, HN.out.cell 2 rfl 3 rfl, HN.out.cell 2 rfl 4 rfl⟩)
     refine LStep.made (some 62) (.slice (some ⟨wq.heap.size, 0, none⟩) 1 1) _ (by kernel_rfl) (by kernel_rfl) hH2 ?_
     exact outof_G hG (Z12.out wq.heap.size b75 _ HN) (by kernel_rfl) (by rw [hA.out]; try kernel_rfl)
    ·
     have HN := Tre.hid (HC.out.allocRow #[.int .i64 0] 3 1 1 (by unfold maxLen; omega) rfl)
     have hH2 := cS.is (w := (wq.alloc (.cells #[.int .i64 0] 3))) (⟨HN.out.cell 3 rfl 0 rfl, HN.out.cell 3 rfl 1 rfl, HN.out.cell 3 rfl 2 rfl, HN.out.cell 2 rfl 0 rfl, HN.out.cell 2 rfl 1 rfl, HN.out.cell 2 rfl 2 rfl, HN.out.cell 2 rfl 3 rfl, HN.out.cell 2 rfl 4 rfl⟩)
     refine LStep.made (some 68) (.slice (some ⟨wq.heap.size, 0, none⟩) 1 1) _ (by kernel_rfl) (by kernel_rfl) hH2 ?_
     exact outof_G hG (Z13.out wq.heap.size b75 _ HN) (by kernel_rfl) (by rw [hA.out]; try kernel_rfl)
   ⟩
   have Z17 : Kept (∀ (wq : World), Hid (Mem w wq [cellsR bc 72 #[.int .i64 2, .string X.name, .slice ax X.args.length cx, .map none, .bool X.isOpen], cellsR s 64 #[.slice aO k cO, .slice aR k cR, .slice aH k cH, .slice none 0 0], rowR 3 1 (.slice aO k cO) k ((List.range k).map en), rowR 3 1 (.slice aR k cR) k ((List.replicate k 0).map en), rowR 72 5 (.slice aH k cH) k (hasCells cs (List.range k)), cellsR bn 40 #[.int .i64 2, .string X.name, .slice ax X.args.length cx, .slice lx X.labels.length dx, .bool X.isOpen], cellsR bg 24 #[.slice (some ⟨b1, o1, none⟩) f.ns.length ca, .int .i64 f.root], mapsR (cs ++ [⟨X, ax, X.args.length, cx, none, 0⟩])]) → G 15 (bt 32 2047231) (a0) wq) := ⟨by
    intro  wq HC
    refine into_G hG ?_
    rw [hA.out]
    have hH := cS.is (w := wq) (⟨HC.out.cell 1 rfl 0 rfl, HC.out.cell 1 rfl 1 rfl, HC.out.cell 1 rfl 2 rfl, HC.out.cell 0 rfl 0 rfl, HC.out.cell 0 rfl 1 rfl, HC.out.cell 0 rfl 2 rfl, HC.out.cell 0 rfl 3 rfl, HC.out.cell 0 rfl 4 rfl⟩)
    refine lThree 8 14 21 (by kernel_rfl) ?_ ?_ ?_
    ·
     have HN := Tre.hid (HC.out.allocRow #[.int .i64 (k : Int)] 3 1 1 (by unfold maxLen; omega) rfl)
     have hH2 := cS.is (w := (wq.alloc (.cells #[.int .i64 (k : Int)] 3))) (⟨HN.out.cell 2 rfl 0 rfl, HN.out.cell 2 rfl 1 rfl, HN.out.cell 2 rfl 2 rfl, HN.out.cell 1 rfl 0 rfl, HN.out.cell 1 rfl 1 rfl, HN.out.cell 1 rfl 2 rfl, HN.out.cell 1 rfl 3 rfl, HN.out.cell 1 rfl 4 rfl⟩)
     refine LStep.made (some 62) (.slice (some ⟨wq.heap.size, 0, none⟩) 1 1) _ (by kernel_rfl) (by kernel_rfl) hH2 ?_
     exact outof_G hG (Z14.out wq.heap.size _ HN) (by kernel_rfl) (by rw [hA.out]; try kernel_rfl)
    ·
     have HN := Tre.hid (HC.out.allocRow #[.int .i64 0] 3 1 1 (by unfold maxLen; omega) rfl)
     have hH2 := cS.is (w := (wq.alloc (.cells #[.int .i64 0] 3))) (⟨HN.out.cell 2 rfl 0 rfl, HN.out.cell 2 rfl 1 rfl, HN.out.cell 2 rfl 2 rfl, HN.out.cell 1 rfl 0 rfl, HN.out.cell 1 rfl 1 rfl, HN.out.cell 1 rfl 2 rfl, HN.out.cell 1 rfl 3 rfl, HN.out.cell 1 rfl 4 rfl⟩)
     refine LStep.made (some 68) (.slice (some ⟨wq.heap.size, 0, none⟩) 1 1) _ (by kernel_rfl) (by kernel_rfl) hH2 ?_
     exact outof_G hG (Z15.out wq.heap.size _ HN) (by kernel_rfl) (by rw [hA.out]; try kernel_rfl)
    ·
     have HN := Tre.hid (HC.out.allocRow #[.int .i64 2, .string X.name, .slice ax X.args.length cx, .map none, .bool X.isOpen] 72 5 1 (by unfold maxLen; omega) rfl)
     have hH2 := cS.is (w := (wq.alloc (.cells #[.int .i64 2, .string X.name, .slice ax X.args.length cx, .map none, .bool X.isOpen] 72))) (⟨HN.out.cell 2 rfl 0 rfl, HN.out.cell 2 rfl 1 rfl, HN.out.cell 2 rfl 2 rfl, HN.out.cell 1 rfl 0 rfl, HN.out.cell 1 rfl 1 rfl, HN.out.cell 1 rfl 2 rfl, HN.out.cell 1 rfl 3 rfl, HN.out.cell 1 rfl 4 rfl⟩)
     refine LStep.made (some 75) (.slice (some ⟨wq.heap.size, 0, none⟩) 1 1) _ (by kernel_rfl) (by kernel_rfl) hH2 ?_
     exact outof_G hG (Z16.out wq.heap.size _ HN) (by kernel_rfl) (by rw [hA.out]; try kernel_rfl)
   ⟩
   exact Z17.out  wq0 HC
  ·rw [kk] at x0
   have hmk0 : ∀ (w : World), (Instr.makeMap 44 none).run Tryz.prog w = .ok (.map (some w.heap.size)) (w.alloc (.map #[] 0)) := fun w => by
    simp [Instr.makeMap, newObj]; rfl
   have MA := ((HM.out.allocR #[.int .i64 3, .string X.name, .slice ax X.args.length cx, .slice lx X.labels.length dx, .bool X.isOpen] 40).allocR #[.int .i64 3, .string X.name, .slice none 0 0, .map (some (wr.heap.size + 1 + 1)), .bool X.isOpen] 72).allocMap Tryz.prog 9 Value.string en
   simp only [heapSize_alloc] at MA
   have HQ0 := Tre.hid MA
   obtain ⟨hla, hris⟩ := hmk.obj kk
   have HND := Tre.hid (labels_nodup hris)
   have HLA := Tre.hid hla
   have HLK := Tre.hid hlk
   have HAR := Tre.hid hmk.args
   have HKK := Tre.hid kk
   have H5 := Tre.hid h5
   have H6 := Tre.hid h6
   have hll : X.labels.length ≤ 4194304 := by omega
   clear MA HM kk h5 h6 h7 h8 hla hris hlk hmk
   go_wp2_with fail
   generalize hz0 : wr.heap.size + 1 + 1 = bm at *
   generalize hz1 : wr.heap.size + 1 = bc at *
   generalize hz2 : wr.heap.size = bn at *
   generalize hww : World.alloc _ (.map #[] 0) = w2 at HQ0 ⊢
   clear hz0 hz1 hz2 hww hmk0 g0 g1 x0 x1 x2 x3 x4
   obtain ⟨wo, hwo⟩ : ∃ wo : World, wo = wr := ⟨_, rfl⟩
   clear hwo
   go_loopw [40] (fun v40 wr => ∃ j : Nat, j ≤ X.labels.length ∧ v40 = .int .i64 j ∧ Hid (Mem w wr [mapR Tryz.prog 9 Value.string en bm j (fieldsK X j), cellsR bc 72 #[.int .i64 3, .string X.name, .slice none 0 0, .map (some bm), .bool X.isOpen], cellsR bn 40 #[.int .i64 3, .string X.name, .slice ax X.args.length cx, .slice lx X.labels.length dx, .bool X.isOpen], cellsR s 64 #[.slice aO k cO, .slice aR k cR, .slice aH k cH, .slice none 0 0], rowR 3 1 (.slice aO k cO) k ((List.range k).map en), rowR 3 1 (.slice aR k cR) k ((List.replicate k 0).map en), rowR 72 5 (.slice aH k cH) k (hasCells cs (List.range k)), cellsR bg 24 #[.slice (some ⟨b1, o1, none⟩) f.ns.length ca, .int .i64 f.root], mapsR cs]))
    (fun v40 _ => X.labels.length - (intOf v40).toNat)
   case atStart => exact ⟨0, Nat.zero_le _, rfl, (by have h := HQ0.out; have e0 : (fun _ : ByteArray => (none : Option Nat)) = fieldsK X 0 := rfl; rw [e0] at h; exact h)⟩
   case round =>
   clear HQ0
   obtain ⟨j, hj, rfl, HI⟩ := hrel
   by_cases hjl : j < X.labels.length
   ·have hja : j < X.args.length := by rw [← HLA.out]; exact hjl
    obtain ⟨bl, ol, rfl, hl⟩ := H6.out.at_ j (.string (X.labels.getD j ByteArray.empty)) (by rw [List.getElem?_map, List.getD_eq_getElem?_getD, List.getElem?_eq_getElem hjl]; rfl)
    obtain ⟨ga, oa, rfl, hav⟩ := H5.out.at_ j (.int .i64 (((X.args.getD j 0).toNat : Nat) : Int)) (by
     have h0 := HAR.out X.args[j] (List.getElem_mem hja)
     rw [List.getElem?_map, List.getD_eq_getElem?_getD, List.getElem?_eq_getElem hja]
     simp only [zqd, Option.getD_some, zqe, Value.int.injEq, true_and]
     omega)
    have hnew := fieldsK_new HND.out hjl
    have hls := HLK.out (X.labels.getD j ByteArray.empty) (by rw [List.getD_eq_getElem?_getD, List.getElem?_eq_getElem hjl]; exact List.getElem_mem hjl)
    have HUP : Hid (upd (fieldsK X j) (X.labels.getD j ByteArray.empty) (X.args.getD j 0).toNat = fieldsK X (j + 1)) := rfl
    generalize X.labels.getD j ByteArray.empty = l at *
    generalize (X.args.getD j 0).toNat = u at *
    have HNW := Tre.hid hnew
    have l1 := cell_below (HBW.out.trans (HI.out.below.mono HBW.out.size)) hl
    have q1 : wr.cell? ⟨ga, oa + j, none⟩ = some (.int .i64 (u : Int)) := cell_below (HBW.out.trans (HI.out.below.mono HBW.out.size)) hav
    have q2 : wr.cell? ⟨bc, 3, none⟩ = some (.map (some bm)) := HI.out.cell 1 rfl 3 rfl
    have q3 : wr.cell? ⟨bn, 2, none⟩ = some (.slice (some ⟨ga, oa, none⟩) X.args.length cx) := HI.out.cell 2 rfl 2 rfl
    have i2 : (j : Int) < (X.labels.length : Int) := by omega
    have i3 : (j : Int) < (X.args.length : Int) := by omega
    clear hl hav hnew
    go_wp2_with fail
    have cS : Cond (fun w' => w'.cell? ⟨bc, 3, none⟩ = some (.map (some bm)) ∧ w'.cell? ⟨bn, 2, none⟩ = some (.slice (some ⟨ga, oa, none⟩) X.args.length cx) ∧ w'.cell? ⟨ga, oa + j, none⟩ = some (.int .i64 (u : Int))) := ⟨⟩
    refine cS.keep [8] ?_ (fun hH0 => ?_)
    ·exact ⟨q2, q3, q1⟩
    have HJ := Tre.hid HI.out.drew
    generalize hq : World.drew _ = wq0 at HJ hH0 ⊢
    clear hq HI q1 q2 q3 l1
    refine lPq 0 (some 45) (v := ?_) rfl ?_ (keep_of hH0) ?_
    rotate_left
    ·intro w; go_simp <;> with_reducible rfl
    try simp only [Act.put, zqf, zqg, zqh]
    refine lPq 2 (some 47) (v := ?_) rfl ?_ (keep_of hH0) ?_
    rotate_left
    ·intro w; go_simp <;> with_reducible rfl
    try simp only [Act.put, zqf, zqg, zqh]
    refine lPq 3 (some 48) (v := ?_) rfl ?_ (keep_of hH0) ?_
    rotate_left
    ·intro w; go_simp <;> with_reducible rfl
    try simp only [Act.put, zqf, zqg, zqh]
    refine lPq 5 (some 50) (v := ?_) rfl ?_ (keep_of hH0) ?_
    rotate_left
    ·intro w; go_simp <;> with_reducible rfl
    try simp only [Act.put, zqf, zqg, zqh]
    refine lTq 1 (some 46) (v := ?_) rfl ?_ hH0 ?_
    rotate_left
    ·intro w hSw; (try dsimp only at hSw); go_simp <;> with_reducible rfl
    try simp only [Act.put, zqf, zqg, zqh]
    refine lTq 4 (some 49) (v := ?_) rfl ?_ hH0 ?_
    rotate_left
    ·intro w hSw; (try dsimp only at hSw); go_simp <;> with_reducible rfl
    try simp only [Act.put, zqf, zqg, zqh]
    refine lPq 6 (some 51) (v := ?_) rfl ?_ (keep_of hH0) ?_
    rotate_left
    ·intro w; go_simp <;> with_reducible rfl
    try simp only [Act.put, zqf, zqg, zqh]
    refine lTq 7 (some 52) (v := ?_) rfl ?_ hH0 ?_
    rotate_left
    ·intro w hSw; (try dsimp only at hSw); go_simp <;> with_reducible rfl
    try simp only [Act.put, zqf, zqg, zqh]
    refine lOne 8 (by kernel_rfl) (LFall.op (by kernel_rfl) (fun K hK => ?_))
    refine wp_store_map _ _ _ 44 (by rfl) 3 gr.K gr.inj Tryz.underlying44 (by rfl) (HJ.out.map 0 rfl) l (by rfl) (ky l (by unfold maxLen; omega)) u (by rfl) ?_
    intro wq1 hm9 hg9
    rw [HNW.out, HUP.out] at hm9
    have HM9 := Tre.hid (HJ.out.put 0 rfl hg9 hm9)
    clear hm9 hg9
    refine hK.out _ _ ?_
    clear hK K hH0
    try simp only [Act.put, zqf]
    refine lDone (by kernel_rfl) ?_
    go_wp2_with fail
    go_roundw
    case rel => exact ⟨j + 1, by omega, by go_num, HM9.out⟩
    case measure => simp [intOf]; omega
   ·have e : j = X.labels.length := by omega
    subst e
    have HQ := Tre.hid ((((((((((mapsR_more (c := ⟨X, none, 0, 0, some bm, bm⟩) ((HI.out.front 8 rfl).front 1 rfl)).front 0 rfl).front 7 rfl).front 3 rfl).front 7 rfl).front 7 rfl).front 7 rfl).front 7 rfl).front 7 rfl))
    clear HI
    go_wp2_with fail
    have HOK : Hid (ClsOk wb ⟨X, none, 0, 0, some bm, bm⟩) := ⟨fun h => absurd (h.symm.trans HKK.out) (by omega), fun h => absurd (h.symm.trans HKK.out) (by omega), fun _ => ⟨rfl, rfl, rfl, rfl⟩⟩
    have cS : Cond (fun w' => w'.cell? ⟨s, 0, none⟩ = some (.slice aO k cO) ∧ w'.cell? ⟨s, 1, none⟩ = some (.slice aR k cR) ∧ w'.cell? ⟨s, 2, none⟩ = some (.slice aH k cH) ∧ w'.cell? ⟨bc, 0, none⟩ = some (.int .i64 3) ∧ w'.cell? ⟨bc, 1, none⟩ = some (.string X.name) ∧ w'.cell? ⟨bc, 2, none⟩ = some (.slice none 0 0) ∧ w'.cell? ⟨bc, 3, none⟩ = some (.map (some bm)) ∧ w'.cell? ⟨bc, 4, none⟩ = some (.bool X.isOpen)) := ⟨⟩
    refine cS.keep [22, 25, 28, 31] ?_ (fun hH => ?_)
    ·exact ⟨HQ.out.cell 1 rfl 0 rfl, HQ.out.cell 1 rfl 1 rfl, HQ.out.cell 1 rfl 2 rfl, HQ.out.cell 0 rfl 0 rfl, HQ.out.cell 0 rfl 1 rfl, HQ.out.cell 0 rfl 2 rfl, HQ.out.cell 0 rfl 3 rfl, HQ.out.cell 0 rfl 4 rfl⟩
    have HC := Tre.hid HQ.out.drew
    generalize hq : World.drew _ = wq0 at HC hH ⊢
    clear hq HQ
    refine lPv 0 (some 54) (.pointer (some ⟨s, 0, none⟩)) (keep_of hH) ?_
    refine lPv 1 (some 55) (.pointer (some ⟨s, 0, none⟩)) (keep_of hH) ?_
    refine lPv 2 (some 56) (.pointer (some ⟨s, 0, none⟩)) (keep_of hH) ?_
    refine lPv 3 (some 57) (.pointer (some ⟨s, 0, none⟩)) (keep_of hH) ?_
    refine lPv 4 (some 58) (.pointer (some ⟨s, 0, none⟩)) (keep_of hH) ?_
    refine lPv 5 (some 59) (.pointer (some ⟨s, 0, none⟩)) (keep_of hH) ?_
    try simp only [Act.put, zqf, zqg, zqh]
    refine lTq 6 (some 60) (v := ?_) rfl ?_ hH ?_
    rotate_left
    ·intro w hSw; (try dsimp only at hSw); go_simp <;> with_reducible rfl
    try simp only [Act.put, zqf, zqg, zqh]
    refine lPv 7 (some 61) (.int .i64 (k : Int)) (keep_of hH) ?_
    refine lPv 10 (some 64) (.pointer (some ⟨s, 0, none⟩)) (keep_of hH) ?_
    refine lPv 11 (some 65) (.pointer (some ⟨s, 0, none⟩)) (keep_of hH) ?_
    refine lPv 12 (some 66) (.pointer (some ⟨s, 1, none⟩)) (keep_of hH) ?_
    try simp only [Act.put, zqf, zqg, zqh]
    refine lTq 13 (some 67) (v := ?_) rfl ?_ hH ?_
    rotate_left
    ·intro w hSw; (try dsimp only at hSw); go_simp <;> with_reducible rfl
    try simp only [Act.put, zqf, zqg, zqh]
    refine lPv 16 (some 70) (.pointer (some ⟨s, 0, none⟩)) (keep_of hH) ?_
    refine lPv 17 (some 71) (.pointer (some ⟨s, 0, none⟩)) (keep_of hH) ?_
    refine lPv 18 (some 72) (.pointer (some ⟨s, 2, none⟩)) (keep_of hH) ?_
    try simp only [Act.put, zqf, zqg, zqh]
    refine lTq 19 (some 73) (v := ?_) rfl ?_ hH ?_
    rotate_left
    ·intro w hSw; (try dsimp only at hSw); go_simp <;> with_reducible rfl
    try simp only [Act.put, zqf, zqg, zqh]
    try simp only [Act.put, zqf, zqg, zqh]
    refine lTq 20 (some 74) (v := ?_) rfl ?_ hH ?_
    rotate_left
    ·intro w hSw; (try dsimp only at hSw); go_simp <;> with_reducible rfl
    try simp only [Act.put, zqf, zqg, zqh]
    try simp only [Act.put, zqf, zqg, zqh]
    refine with_G (G0 := wpAnyL _ _ _ _ _ _) ?_
    intro G hG a0 hA
    have Z0 : Kept (∀ (b62 : Nat) (b68 : Nat) (b75 : Nat) (a63 : Option Addr) (c63 : Nat) (a69 : Option Addr) (c69 : Nat) (a76 : Option Addr) (c76 : Nat) (wq : World), Hid (Mem w wq [cellsR bc 72 #[.int .i64 3, .string X.name, .slice none 0 0, .map (some bm), .bool X.isOpen], cellsR s 64 #[.slice a63 (k + 1) c63, .slice a69 (k + 1) c69, .slice a76 (k + 1) c76, .slice none 0 0], rowR 3 1 (.slice a63 (k + 1) c63) (k + 1) (((List.range k).map en) ++ [.int .i64 (k : Int)]), rowR 3 1 (.slice a69 (k + 1) c69) (k + 1) (((List.replicate k 0).map en) ++ [.int .i64 0]), rowR 72 5 (.slice a76 (k + 1) c76) (k + 1) ((hasCells cs (List.range k)) ++ [.int .i64 3, .string X.name, .slice none 0 0, .map (some bm), .bool X.isOpen]), cellsR bn 40 #[.int .i64 3, .string X.name, .slice ax X.args.length cx, .slice lx X.labels.length dx, .bool X.isOpen], cellsR bg 24 #[.slice (some ⟨b1, o1, none⟩) f.ns.length ca, .int .i64 f.root], mapsR (cs ++ [⟨X, none, 0, 0, some bm, bm⟩])]) → G 0 (bt 32 4294967295) ((((((((((((a0.put (some 62) (.slice (some ⟨b62, 0, none⟩) 1 1)).put (some 63) (.slice a63 (k + 1) c63)).put (some 68) (.slice (some ⟨b68, 0, none⟩) 1 1)).put (some 69) (.slice a69 (k + 1) c69)).put (some 75) (.slice (some ⟨b75, 0, none⟩) 1 1)).put (some 76) (.slice a76 (k + 1) c76)).put (some 77) (.pointer (some ⟨s, 0, none⟩))).put (some 78) (.pointer (some ⟨s, 0, none⟩))).put (some 79) (.pointer (some ⟨s, 0, none⟩))).put (some 80) (.pointer (some ⟨s, 1, none⟩))).put (some 81) (.pointer (some ⟨s, 0, none⟩))).put (some 82) (.pointer (some ⟨s, 2, none⟩))) wq) := ⟨by
     intro b62 b68 b75 a63 c63 a69 c69 a76 c76 wq HC
     refine into_G hG ?_
     rw [hA.out]
     try simp only [Act.put, zqf, zqg, zqh]
     refine lDone (by kernel_rfl) ?_
     clear hA hG
     go_wp2_with fail
     go_roundw
     case rel =>
      refine ⟨k + 1, cs ++ [⟨X, none, 0, 0, some bm, bm⟩], a63, c63, a69, c69, a76, c76, by omega, by go_num, snoc_len HCL.out, snoc_ok HCL.out HCK.out HXX.out HOK.out, ?_⟩
      have h := (HC.out.del 0).del 4
      show Mem _ _ _
      rw [range_en, repl_en, hasCells_more HCL.out, show (⟨X, none, 0, 0, some bm, bm⟩ : ClsV).cells = [.int .i64 3, .string X.name, .slice none 0 0, .map (some bm), .bool X.isOpen] by simp only [ClsV.cells, HKK.out]]
      exact h
     case measure => simp [intOf]; omega
    ⟩
    have Z1 : Kept (∀ (b62 : Nat) (b68 : Nat) (b75 : Nat) (a63 : Option Addr) (c63 : Nat) (a69 : Option Addr) (c69 : Nat) (a76 : Option Addr) (c76 : Nat) (wq : World), Hid (Mem w wq [cellsR bc 72 #[.int .i64 3, .string X.name, .slice none 0 0, .map (some bm), .bool X.isOpen], cellsR s 64 #[.slice a63 (k + 1) c63, .slice a69 (k + 1) c69, .slice aH k cH, .slice none 0 0], rowR 3 1 (.slice a63 (k + 1) c63) (k + 1) (((List.range k).map en) ++ [.int .i64 (k : Int)]), rowR 3 1 (.slice a69 (k + 1) c69) (k + 1) (((List.replicate k 0).map en) ++ [.int .i64 0]), rowR 72 5 (.slice a76 (k + 1) c76) (k + 1) ((hasCells cs (List.range k)) ++ [.int .i64 3, .string X.name, .slice none 0 0, .map (some bm), .bool X.isOpen]), cellsR bn 40 #[.int .i64 3, .string X.name, .slice ax X.args.length cx, .slice lx X.labels.length dx, .bool X.isOpen], cellsR bg 24 #[.slice (some ⟨b1, o1, none⟩) f.ns.length ca, .int .i64 f.root], mapsR (cs ++ [⟨X, none, 0, 0, some bm, bm⟩])]) → G 1 (bt 32 2147483647) ((((((((((((a0.put (some 62) (.slice (some ⟨b62, 0, none⟩) 1 1)).put (some 63) (.slice a63 (k + 1) c63)).put (some 68) (.slice (some ⟨b68, 0, none⟩) 1 1)).put (some 69) (.slice a69 (k + 1) c69)).put (some 75) (.slice (some ⟨b75, 0, none⟩) 1 1)).put (some 76) (.slice a76 (k + 1) c76)).put (some 77) (.pointer (some ⟨s, 0, none⟩))).put (some 78) (.pointer (some ⟨s, 0, none⟩))).put (some 79) (.pointer (some ⟨s, 0, none⟩))).put (some 80) (.pointer (some ⟨s, 1, none⟩))).put (some 81) (.pointer (some ⟨s, 0, none⟩))).put (some 82) (.pointer (some ⟨s, 2, none⟩))) wq) := ⟨by
     intro b62 b68 b75 a63 c63 a69 c69 a76 c76 wq HC
     refine into_G hG ?_
     rw [hA.out]
     try simp only [Act.put, zqf, zqg, zqh]
     refine lOne 31 (by kernel_rfl) ?_
     ·
      refine (LFall.op (by kernel_rfl) (fun K hK => ?_))
      have z0 := HC.out.free 1 rfl 2
      have y0 := HC.out.cell 1 rfl 2 rfl
      have HN := Tre.hid (HC.out.setCell 1 rfl 2 (.slice a76 (k + 1) c76))
      go_simp
      clear z0 y0
      generalize hw : wq.setCell ⟨s, 2, none⟩ _ = wr at HN ⊢
      clear hw
      refine hK.out _ _ ?_
      exact outof_G hG (Z0.out b62 b68 b75 a63 c63 a69 c69 a76 c76 wr HN) (by kernel_rfl) (by rw [hA.out]; try kernel_rfl)
    ⟩
    have Z2 : Kept (∀ (b62 : Nat) (b68 : Nat) (b75 : Nat) (a63 : Option Addr) (c63 : Nat) (a69 : Option Addr) (c69 : Nat) (a76 : Option Addr) (c76 : Nat) (wq : World), Hid (Mem w wq [cellsR bc 72 #[.int .i64 3, .string X.name, .slice none 0 0, .map (some bm), .bool X.isOpen], cellsR s 64 #[.slice a63 (k + 1) c63, .slice aR k cR, .slice aH k cH, .slice none 0 0], rowR 3 1 (.slice a63 (k + 1) c63) (k + 1) (((List.range k).map en) ++ [.int .i64 (k : Int)]), rowR 3 1 (.slice a69 (k + 1) c69) (k + 1) (((List.replicate k 0).map en) ++ [.int .i64 0]), rowR 72 5 (.slice a76 (k + 1) c76) (k + 1) ((hasCells cs (List.range k)) ++ [.int .i64 3, .string X.name, .slice none 0 0, .map (some bm), .bool X.isOpen]), cellsR bn 40 #[.int .i64 3, .string X.name, .slice ax X.args.length cx, .slice lx X.labels.length dx, .bool X.isOpen], cellsR bg 24 #[.slice (some ⟨b1, o1, none⟩) f.ns.length ca, .int .i64 f.root], mapsR (cs ++ [⟨X, none, 0, 0, some bm, bm⟩])]) → G 4 (bt 32 268435455) ((((((((((a0.put (some 62) (.slice (some ⟨b62, 0, none⟩) 1 1)).put (some 63) (.slice a63 (k + 1) c63)).put (some 68) (.slice (some ⟨b68, 0, none⟩) 1 1)).put (some 69) (.slice a69 (k + 1) c69)).put (some 75) (.slice (some ⟨b75, 0, none⟩) 1 1)).put (some 76) (.slice a76 (k + 1) c76)).put (some 77) (.pointer (some ⟨s, 0, none⟩))).put (some 78) (.pointer (some ⟨s, 0, none⟩))).put (some 79) (.pointer (some ⟨s, 0, none⟩))).put (some 80) (.pointer (some ⟨s, 1, none⟩))) wq) := ⟨by
     intro b62 b68 b75 a63 c63 a69 c69 a76 c76 wq HC
     refine into_G hG ?_
     rw [hA.out]
     try simp only [Act.put, zqf, zqg, zqh]
     refine lOne 28 (by kernel_rfl) ?_
     ·
      refine (LFall.op (by kernel_rfl) (fun K hK => ?_))
      have z0 := HC.out.free 1 rfl 1
      have y0 := HC.out.cell 1 rfl 1 rfl
      have HN := Tre.hid (HC.out.setCell 1 rfl 1 (.slice a69 (k + 1) c69))
      go_simp
      clear z0 y0
      generalize hw : wq.setCell ⟨s, 1, none⟩ _ = wr at HN ⊢
      clear hw
      refine hK.out _ _ ?_
      refine lPv 29 (some 81) (.pointer (some ⟨s, 0, none⟩)) (keep_fell (by kernel_rfl)) ?_
      refine lPv 30 (some 82) (.pointer (some ⟨s, 2, none⟩)) (keep_fell (by kernel_rfl)) ?_
      exact outof_G hG (Z1.out b62 b68 b75 a63 c63 a69 c69 a76 c76 wr HN) (by kernel_rfl) (by rw [hA.out]; try kernel_rfl)
    ⟩
    have Z3 : Kept (∀ (b62 : Nat) (b68 : Nat) (b75 : Nat) (a63 : Option Addr) (c63 : Nat) (a69 : Option Addr) (c69 : Nat) (a76 : Option Addr) (c76 : Nat) (wq : World), Hid (Mem w wq [cellsR bc 72 #[.int .i64 3, .string X.name, .slice none 0 0, .map (some bm), .bool X.isOpen], cellsR s 64 #[.slice aO k cO, .slice aR k cR, .slice aH k cH, .slice none 0 0], rowR 3 1 (.slice a63 (k + 1) c63) (k + 1) (((List.range k).map en) ++ [.int .i64 (k : Int)]), rowR 3 1 (.slice a69 (k + 1) c69) (k + 1) (((List.replicate k 0).map en) ++ [.int .i64 0]), rowR 72 5 (.slice a76 (k + 1) c76) (k + 1) ((hasCells cs (List.range k)) ++ [.int .i64 3, .string X.name, .slice none 0 0, .map (some bm), .bool X.isOpen]), cellsR bn 40 #[.int .i64 3, .string X.name, .slice ax X.args.length cx, .slice lx X.labels.length dx, .bool X.isOpen], cellsR bg 24 #[.slice (some ⟨b1, o1, none⟩) f.ns.length ca, .int .i64 f.root], mapsR (cs ++ [⟨X, none, 0, 0, some bm, bm⟩])]) → G 7 (bt 32 33554431) ((((((((a0.put (some 62) (.slice (some ⟨b62, 0, none⟩) 1 1)).put (some 63) (.slice a63 (k + 1) c63)).put (some 68) (.slice (some ⟨b68, 0, none⟩) 1 1)).put (some 69) (.slice a69 (k + 1) c69)).put (some 75) (.slice (some ⟨b75, 0, none⟩) 1 1)).put (some 76) (.slice a76 (k + 1) c76)).put (some 77) (.pointer (some ⟨s, 0, none⟩))).put (some 78) (.pointer (some ⟨s, 0, none⟩))) wq) := ⟨by
     intro b62 b68 b75 a63 c63 a69 c69 a76 c76 wq HC
     refine into_G hG ?_
     rw [hA.out]
     try simp only [Act.put, zqf, zqg, zqh]
     refine lOne 25 (by kernel_rfl) ?_
     ·
      refine (LFall.op (by kernel_rfl) (fun K hK => ?_))
      have z0 := HC.out.free 1 rfl 0
      have y0 := HC.out.cell 1 rfl 0 rfl
      have HN := Tre.hid (HC.out.setCell 1 rfl 0 (.slice a63 (k + 1) c63))
      go_simp
      clear z0 y0
      generalize hw : wq.setCell ⟨s, 0, none⟩ _ = wr at HN ⊢
      clear hw
      refine hK.out _ _ ?_
      refine lPv 26 (some 79) (.pointer (some ⟨s, 0, none⟩)) (keep_fell (by kernel_rfl)) ?_
      refine lPv 27 (some 80) (.pointer (some ⟨s, 1, none⟩)) (keep_fell (by kernel_rfl)) ?_
      exact outof_G hG (Z2.out b62 b68 b75 a63 c63 a69 c69 a76 c76 wr HN) (by kernel_rfl) (by rw [hA.out]; try kernel_rfl)
    ⟩
    have Z4 : Kept (∀ (b62 : Nat) (b68 : Nat) (b75 : Nat) (a63 : Option Addr) (c63 : Nat) (a69 : Option Addr) (c69 : Nat) (wq : World), Hid (Mem w wq [rowR 72 5 (.slice (some ⟨b75, 0, none⟩) 1 1) 1 [.int .i64 3, .string X.name, .slice none 0 0, .map (some bm), .bool X.isOpen], cellsR bc 72 #[.int .i64 3, .string X.name, .slice none 0 0, .map (some bm), .bool X.isOpen], cellsR s 64 #[.slice aO k cO, .slice aR k cR, .slice aH k cH, .slice none 0 0], rowR 3 1 (.slice a63 (k + 1) c63) (k + 1) (((List.range k).map en) ++ [.int .i64 (k : Int)]), rowR 3 1 (.slice a69 (k + 1) c69) (k + 1) (((List.replicate k 0).map en) ++ [.int .i64 0]), rowR 72 5 (.slice aH k cH) k (hasCells cs (List.range k)), cellsR bn 40 #[.int .i64 3, .string X.name, .slice ax X.args.length cx, .slice lx X.labels.length dx, .bool X.isOpen], cellsR bg 24 #[.slice (some ⟨b1, o1, none⟩) f.ns.length ca, .int .i64 f.root], mapsR (cs ++ [⟨X, none, 0, 0, some bm, bm⟩])]) → G 10 (bt 32 4194303) (((((a0.put (some 62) (.slice (some ⟨b62, 0, none⟩) 1 1)).put (some 63) (.slice a63 (k + 1) c63)).put (some 68) (.slice (some ⟨b68, 0, none⟩) 1 1)).put (some 69) (.slice a69 (k + 1) c69)).put (some 75) (.slice (some ⟨b75, 0, none⟩) 1 1)) wq) := ⟨by
     intro b62 b68 b75 a63 c63 a69 c69 wq HC
     refine into_G hG ?_
     rw [hA.out]
     have hH := cS.is (w := wq) (⟨HC.out.cell 2 rfl 0 rfl, HC.out.cell 2 rfl 1 rfl, HC.out.cell 2 rfl 2 rfl, HC.out.cell 1 rfl 0 rfl, HC.out.cell 1 rfl 1 rfl, HC.out.cell 1 rfl 2 rfl, HC.out.cell 1 rfl 3 rfl, HC.out.cell 1 rfl 4 rfl⟩)
     refine lOne 22 (by kernel_rfl) ?_
     ·
      refine LFall.app (by kernel_rfl) (some 76) (.tmp 73) (.tmp 75) 62 (by kernel_rfl) 72 ci _ 5 64 Tryz.underlying62 Q1.out Q2.out Q3.out Q4.out rfl (by omega) (.slice aH k cH) k (hasCells cs (List.range k)) (by kernel_rfl) (HC.out.row 5 rfl) (some ⟨b75, 0, none⟩) 1 1 [.int .i64 3, .string X.name, .slice none 0 0, .map (some bm), .bool X.isOpen] (by kernel_rfl) (nrowS (HC.out.row 0 rfl)) (by simp [Value.oneCell']) (by unfold maxLen; omega) (by omega) ?_
      intro v' wr hown4 hgrow4 hat4
      have M4 := HC.out.grow 5 rfl hgrow4 hown4 hat4
      obtain ⟨a76, c76, rfl, _⟩ := M4.val 5 rfl
      have HN := Tre.hid (M4.del 0)
      clear M4 hown4 hgrow4 hat4
      refine lPv 23 (some 77) (.pointer (some ⟨s, 0, none⟩)) (keep_fell (by kernel_rfl)) ?_
      refine lPv 24 (some 78) (.pointer (some ⟨s, 0, none⟩)) (keep_fell (by kernel_rfl)) ?_
      exact outof_G hG (Z3.out b62 b68 b75 a63 c63 a69 c69 a76 c76 wr HN) (by kernel_rfl) (by rw [hA.out]; try kernel_rfl)
    ⟩
    have Z5 : Kept (∀ (b62 : Nat) (b68 : Nat) (a63 : Option Addr) (c63 : Nat) (a69 : Option Addr) (c69 : Nat) (wq : World), Hid (Mem w wq [cellsR bc 72 #[.int .i64 3, .string X.name, .slice none 0 0, .map (some bm), .bool X.isOpen], cellsR s 64 #[.slice aO k cO, .slice aR k cR, .slice aH k cH, .slice none 0 0], rowR 3 1 (.slice a63 (k + 1) c63) (k + 1) (((List.range k).map en) ++ [.int .i64 (k : Int)]), rowR 3 1 (.slice a69 (k + 1) c69) (k + 1) (((List.replicate k 0).map en) ++ [.int .i64 0]), rowR 72 5 (.slice aH k cH) k (hasCells cs (List.range k)), cellsR bn 40 #[.int .i64 3, .string X.name, .slice ax X.args.length cx, .slice lx X.labels.length dx, .bool X.isOpen], cellsR bg 24 #[.slice (some ⟨b1, o1, none⟩) f.ns.length ca, .int .i64 f.root], mapsR (cs ++ [⟨X, none, 0, 0, some bm, bm⟩])]) → G 11 (bt 32 2097151) ((((a0.put (some 62) (.slice (some ⟨b62, 0, none⟩) 1 1)).put (some 63) (.slice a63 (k + 1) c63)).put (some 68) (.slice (some ⟨b68, 0, none⟩) 1 1)).put (some 69) (.slice a69 (k + 1) c69)) wq) := ⟨by
     intro b62 b68 a63 c63 a69 c69 wq HC
     refine into_G hG ?_
     rw [hA.out]
     have hH := cS.is (w := wq) (⟨HC.out.cell 1 rfl 0 rfl, HC.out.cell 1 rfl 1 rfl, HC.out.cell 1 rfl 2 rfl, HC.out.cell 0 rfl 0 rfl, HC.out.cell 0 rfl 1 rfl, HC.out.cell 0 rfl 2 rfl, HC.out.cell 0 rfl 3 rfl, HC.out.cell 0 rfl 4 rfl⟩)
     refine lOne 21 (by kernel_rfl) ?_
     ·
      have HN := Tre.hid (HC.out.allocRow #[.int .i64 3, .string X.name, .slice none 0 0, .map (some bm), .bool X.isOpen] 72 5 1 (by unfold maxLen; omega) rfl)
      have hH2 := cS.is (w := (wq.alloc (.cells #[.int .i64 3, .string X.name, .slice none 0 0, .map (some bm), .bool X.isOpen] 72))) (⟨HN.out.cell 2 rfl 0 rfl, HN.out.cell 2 rfl 1 rfl, HN.out.cell 2 rfl 2 rfl, HN.out.cell 1 rfl 0 rfl, HN.out.cell 1 rfl 1 rfl, HN.out.cell 1 rfl 2 rfl, HN.out.cell 1 rfl 3 rfl, HN.out.cell 1 rfl 4 rfl⟩)
      refine LStep.made (some 75) (.slice (some ⟨wq.heap.size, 0, none⟩) 1 1) _ (by kernel_rfl) (by kernel_rfl) hH2 ?_
      exact outof_G hG (Z4.out b62 b68 wq.heap.size a63 c63 a69 c69 _ HN) (by kernel_rfl) (by rw [hA.out]; try kernel_rfl)
    ⟩
    have Z6 : Kept (∀ (b62 : Nat) (b68 : Nat) (b75 : Nat) (a63 : Option Addr) (c63 : Nat) (wq : World), Hid (Mem w wq [rowR 3 1 (.slice (some ⟨b68, 0, none⟩) 1 1) 1 [.int .i64 0], rowR 72 5 (.slice (some ⟨b75, 0, none⟩) 1 1) 1 [.int .i64 3, .string X.name, .slice none 0 0, .map (some bm), .bool X.isOpen], cellsR bc 72 #[.int .i64 3, .string X.name, .slice none 0 0, .map (some bm), .bool X.isOpen], cellsR s 64 #[.slice aO k cO, .slice aR k cR, .slice aH k cH, .slice none 0 0], rowR 3 1 (.slice a63 (k + 1) c63) (k + 1) (((List.range k).map en) ++ [.int .i64 (k : Int)]), rowR 3 1 (.slice aR k cR) k ((List.replicate k 0).map en), rowR 72 5 (.slice aH k cH) k (hasCells cs (List.range k)), cellsR bn 40 #[.int .i64 3, .string X.name, .slice ax X.args.length cx, .slice lx X.labels.length dx, .bool X.isOpen], cellsR bg 24 #[.slice (some ⟨b1, o1, none⟩) f.ns.length ca, .int .i64 f.root], mapsR (cs ++ [⟨X, none, 0, 0, some bm, bm⟩])]) → G 11 (bt 32 4161535) ((((a0.put (some 62) (.slice (some ⟨b62, 0, none⟩) 1 1)).put (some 63) (.slice a63 (k + 1) c63)).put (some 68) (.slice (some ⟨b68, 0, none⟩) 1 1)).put (some 75) (.slice (some ⟨b75, 0, none⟩) 1 1)) wq) := ⟨by
     intro b62 b68 b75 a63 c63 wq HC
     refine into_G hG ?_
     rw [hA.out]
     have hH := cS.is (w := wq) (⟨HC.out.cell 3 rfl 0 rfl, HC.out.cell 3 rfl 1 rfl, HC.out.cell 3 rfl 2 rfl, HC.out.cell 2 rfl 0 rfl, HC.out.cell 2 rfl 1 rfl, HC.out.cell 2 rfl 2 rfl, HC.out.cell 2 rfl 3 rfl, HC.out.cell 2 rfl 4 rfl⟩)
     refine lOne 15 (by kernel_rfl) ?_
     ·
      refine LStep.app (some 69) (.tmp 67) (.tmp 68) 31 (by kernel_rfl) 3 ji _ 1 8 Tryz.underlying31 L1.out L2.out L3.out L4.out rfl (by omega) (.slice aR k cR) k ((List.replicate k 0).map en) (by kernel_rfl) (HC.out.row 5 rfl) (some ⟨b68, 0, none⟩) 1 1 [.int .i64 0] (by kernel_rfl) (nrowS (HC.out.row 0 rfl)) (by simp [Value.oneCell']) (by unfold maxLen; omega) (by omega) ?_
      intro v' wr hown4 hgrow4 hat4
      have M4 := HC.out.grow 5 rfl hgrow4 hown4 hat4
      obtain ⟨a69, c69, rfl, _⟩ := M4.val 5 rfl
      have HN := Tre.hid (M4.del 0)
      clear M4 hown4 hgrow4 hat4
      refine ⟨⟨HN.out.cell 2 rfl 0 rfl, HN.out.cell 2 rfl 1 rfl, HN.out.cell 2 rfl 2 rfl, HN.out.cell 1 rfl 0 rfl, HN.out.cell 1 rfl 1 rfl, HN.out.cell 1 rfl 2 rfl, HN.out.cell 1 rfl 3 rfl, HN.out.cell 1 rfl 4 rfl⟩, fun hH2 => ?_⟩
      exact outof_G hG (Z4.out b62 b68 b75 a63 c63 a69 c69 wr HN) (by kernel_rfl) (by rw [hA.out]; try kernel_rfl)
    ⟩
    have Z7 : Kept (∀ (b62 : Nat) (b68 : Nat) (a63 : Option Addr) (c63 : Nat) (wq : World), Hid (Mem w wq [rowR 3 1 (.slice (some ⟨b68, 0, none⟩) 1 1) 1 [.int .i64 0], cellsR bc 72 #[.int .i64 3, .string X.name, .slice none 0 0, .map (some bm), .bool X.isOpen], cellsR s 64 #[.slice aO k cO, .slice aR k cR, .slice aH k cH, .slice none 0 0], rowR 3 1 (.slice a63 (k + 1) c63) (k + 1) (((List.range k).map en) ++ [.int .i64 (k : Int)]), rowR 3 1 (.slice aR k cR) k ((List.replicate k 0).map en), rowR 72 5 (.slice aH k cH) k (hasCells cs (List.range k)), cellsR bn 40 #[.int .i64 3, .string X.name, .slice ax X.args.length cx, .slice lx X.labels.length dx, .bool X.isOpen], cellsR bg 24 #[.slice (some ⟨b1, o1, none⟩) f.ns.length ca, .int .i64 f.root], mapsR (cs ++ [⟨X, none, 0, 0, some bm, bm⟩])]) → G 12 (bt 32 2064383) (((a0.put (some 62) (.slice (some ⟨b62, 0, none⟩) 1 1)).put (some 63) (.slice a63 (k + 1) c63)).put (some 68) (.slice (some ⟨b68, 0, none⟩) 1 1)) wq) := ⟨by
     intro b62 b68 a63 c63 wq HC
     refine into_G hG ?_
     rw [hA.out]
     have hH := cS.is (w := wq) (⟨HC.out.cell 2 rfl 0 rfl, HC.out.cell 2 rfl 1 rfl, HC.out.cell 2 rfl 2 rfl, HC.out.cell 1 rfl 0 rfl, HC.out.cell 1 rfl 1 rfl, HC.out.cell 1 rfl 2 rfl, HC.out.cell 1 rfl 3 rfl, HC.out.cell 1 rfl 4 rfl⟩)
     refine lTwo 15 21 (by kernel_rfl) ?_ ?_
     ·
      refine LStep.app (some 69) (.tmp 67) (.tmp 68) 31 (by kernel_rfl) 3 ji _ 1 8 Tryz.underlying31 L1.out L2.out L3.out L4.out rfl (by omega) (.slice aR k cR) k ((List.replicate k 0).map en) (by kernel_rfl) (HC.out.row 4 rfl) (some ⟨b68, 0, none⟩) 1 1 [.int .i64 0] (by kernel_rfl) (nrowS (HC.out.row 0 rfl)) (by simp [Value.oneCell']) (by unfold maxLen; omega) (by omega) ?_
      intro v' wr hown4 hgrow4 hat4
      have M4 := HC.out.grow 4 rfl hgrow4 hown4 hat4
      obtain ⟨a69, c69, rfl, _⟩ := M4.val 4 rfl
      have HN := Tre.hid (M4.del 0)
      clear M4 hown4 hgrow4 hat4
      refine ⟨⟨HN.out.cell 1 rfl 0 rfl, HN.out.cell 1 rfl 1 rfl, HN.out.cell 1 rfl 2 rfl, HN.out.cell 0 rfl 0 rfl, HN.out.cell 0 rfl 1 rfl, HN.out.cell 0 rfl 2 rfl, HN.out.cell 0 rfl 3 rfl, HN.out.cell 0 rfl 4 rfl⟩, fun hH2 => ?_⟩
      exact outof_G hG (Z5.out b62 b68 a63 c63 a69 c69 wr HN) (by kernel_rfl) (by rw [hA.out]; try kernel_rfl)
     ·
      have HN := Tre.hid (HC.out.allocRow #[.int .i64 3, .string X.name, .slice none 0 0, .map (some bm), .bool X.isOpen] 72 5 1 (by unfold maxLen; omega) rfl)
      have HC := Tre.hid ((HN.out.front 0 rfl).front 1 rfl)
      clear HN
      have hH2 := cS.is (w := (wq.alloc (.cells #[.int .i64 3, .string X.name, .slice none 0 0, .map (some bm), .bool X.isOpen] 72))) (⟨HC.out.cell 3 rfl 0 rfl, HC.out.cell 3 rfl 1 rfl, HC.out.cell 3 rfl 2 rfl, HC.out.cell 2 rfl 0 rfl, HC.out.cell 2 rfl 1 rfl, HC.out.cell 2 rfl 2 rfl, HC.out.cell 2 rfl 3 rfl, HC.out.cell 2 rfl 4 rfl⟩)
      refine LStep.made (some 75) (.slice (some ⟨wq.heap.size, 0, none⟩) 1 1) _ (by kernel_rfl) (by kernel_rfl) hH2 ?_
      exact outof_G hG (Z6.out b62 b68 wq.heap.size a63 c63 _ HC) (by kernel_rfl) (by rw [hA.out]; try kernel_rfl)
    ⟩
    have Z8 : Kept (∀ (b62 : Nat) (b75 : Nat) (a63 : Option Addr) (c63 : Nat) (wq : World), Hid (Mem w wq [rowR 72 5 (.slice (some ⟨b75, 0, none⟩) 1 1) 1 [.int .i64 3, .string X.name, .slice none 0 0, .map (some bm), .bool X.isOpen], cellsR bc 72 #[.int .i64 3, .string X.name, .slice none 0 0, .map (some bm), .bool X.isOpen], cellsR s 64 #[.slice aO k cO, .slice aR k cR, .slice aH k cH, .slice none 0 0], rowR 3 1 (.slice a63 (k + 1) c63) (k + 1) (((List.range k).map en) ++ [.int .i64 (k : Int)]), rowR 3 1 (.slice aR k cR) k ((List.replicate k 0).map en), rowR 72 5 (.slice aH k cH) k (hasCells cs (List.range k)), cellsR bn 40 #[.int .i64 3, .string X.name, .slice ax X.args.length cx, .slice lx X.labels.length dx, .bool X.isOpen], cellsR bg 24 #[.slice (some ⟨b1, o1, none⟩) f.ns.length ca, .int .i64 f.root], mapsR (cs ++ [⟨X, none, 0, 0, some bm, bm⟩])]) → G 12 (bt 32 4145151) (((a0.put (some 62) (.slice (some ⟨b62, 0, none⟩) 1 1)).put (some 63) (.slice a63 (k + 1) c63)).put (some 75) (.slice (some ⟨b75, 0, none⟩) 1 1)) wq) := ⟨by
     intro b62 b75 a63 c63 wq HC
     refine into_G hG ?_
     rw [hA.out]
     have hH := cS.is (w := wq) (⟨HC.out.cell 2 rfl 0 rfl, HC.out.cell 2 rfl 1 rfl, HC.out.cell 2 rfl 2 rfl, HC.out.cell 1 rfl 0 rfl, HC.out.cell 1 rfl 1 rfl, HC.out.cell 1 rfl 2 rfl, HC.out.cell 1 rfl 3 rfl, HC.out.cell 1 rfl 4 rfl⟩)
     refine lOne 14 (by kernel_rfl) ?_
     ·
      have HN := Tre.hid (HC.out.allocRow #[.int .i64 0] 3 1 1 (by unfold maxLen; omega) rfl)
      have hH2 := cS.is (w := (wq.alloc (.cells #[.int .i64 0] 3))) (⟨HN.out.cell 3 rfl 0 rfl, HN.out.cell 3 rfl 1 rfl, HN.out.cell 3 rfl 2 rfl, HN.out.cell 2 rfl 0 rfl, HN.out.cell 2 rfl 1 rfl, HN.out.cell 2 rfl 2 rfl, HN.out.cell 2 rfl 3 rfl, HN.out.cell 2 rfl 4 rfl⟩)
      refine LStep.made (some 68) (.slice (some ⟨wq.heap.size, 0, none⟩) 1 1) _ (by kernel_rfl) (by kernel_rfl) hH2 ?_
      exact outof_G hG (Z6.out b62 wq.heap.size b75 a63 c63 _ HN) (by kernel_rfl) (by rw [hA.out]; try kernel_rfl)
    ⟩
    have Z9 : Kept (∀ (b62 : Nat) (b68 : Nat) (b75 : Nat) (wq : World), Hid (Mem w wq [rowR 3 1 (.slice (some ⟨b62, 0, none⟩) 1 1) 1 [.int .i64 (k : Int)], rowR 3 1 (.slice (some ⟨b68, 0, none⟩) 1 1) 1 [.int .i64 0], rowR 72 5 (.slice (some ⟨b75, 0, none⟩) 1 1) 1 [.int .i64 3, .string X.name, .slice none 0 0, .map (some bm), .bool X.isOpen], cellsR bc 72 #[.int .i64 3, .string X.name, .slice none 0 0, .map (some bm), .bool X.isOpen], cellsR s 64 #[.slice aO k cO, .slice aR k cR, .slice aH k cH, .slice none 0 0], rowR 3 1 (.slice aO k cO) k ((List.range k).map en), rowR 3 1 (.slice aR k cR) k ((List.replicate k 0).map en), rowR 72 5 (.slice aH k cH) k (hasCells cs (List.range k)), cellsR bn 40 #[.int .i64 3, .string X.name, .slice ax X.args.length cx, .slice lx X.labels.length dx, .bool X.isOpen], cellsR bg 24 #[.slice (some ⟨b1, o1, none⟩) f.ns.length ca, .int .i64 f.root], mapsR (cs ++ [⟨X, none, 0, 0, some bm, bm⟩])]) → G 12 (bt 32 4161023) (((a0.put (some 62) (.slice (some ⟨b62, 0, none⟩) 1 1)).put (some 68) (.slice (some ⟨b68, 0, none⟩) 1 1)).put (some 75) (.slice (some ⟨b75, 0, none⟩) 1 1)) wq) := ⟨by
     intro b62 b68 b75 wq HC
     refine into_G hG ?_
     rw [hA.out]
     have hH := cS.is (w := wq) (⟨HC.out.cell 4 rfl 0 rfl, HC.out.cell 4 rfl 1 rfl, HC.out.cell 4 rfl 2 rfl, HC.out.cell 3 rfl 0 rfl, HC.out.cell 3 rfl 1 rfl, HC.out.cell 3 rfl 2 rfl, HC.out.cell 3 rfl 3 rfl, HC.out.cell 3 rfl 4 rfl⟩)
     refine lOne 9 (by kernel_rfl) ?_
     ·
      refine LStep.app (some 63) (.tmp 60) (.tmp 62) 31 (by kernel_rfl) 3 ji _ 1 8 Tryz.underlying31 L1.out L2.out L3.out L4.out rfl (by omega) (.slice aO k cO) k ((List.range k).map en) (by kernel_rfl) (HC.out.row 5 rfl) (some ⟨b62, 0, none⟩) 1 1 [.int .i64 (k : Int)] (by kernel_rfl) (nrowS (HC.out.row 0 rfl)) (by simp [Value.oneCell']) (by unfold maxLen; omega) (by omega) ?_
      intro v' wr hown4 hgrow4 hat4
      have M4 := HC.out.grow 5 rfl hgrow4 hown4 hat4
      obtain ⟨a63, c63, rfl, _⟩ := M4.val 5 rfl
      have HN := Tre.hid (M4.del 0)
      clear M4 hown4 hgrow4 hat4
      refine ⟨⟨HN.out.cell 3 rfl 0 rfl, HN.out.cell 3 rfl 1 rfl, HN.out.cell 3 rfl 2 rfl, HN.out.cell 2 rfl 0 rfl, HN.out.cell 2 rfl 1 rfl, HN.out.cell 2 rfl 2 rfl, HN.out.cell 2 rfl 3 rfl, HN.out.cell 2 rfl 4 rfl⟩, fun hH2 => ?_⟩
      exact outof_G hG (Z6.out b62 b68 b75 a63 c63 wr HN) (by kernel_rfl) (by rw [hA.out]; try kernel_rfl)
    ⟩
    have Z10 : Kept (∀ (b62 : Nat) (a63 : Option Addr) (c63 : Nat) (wq : World), Hid (Mem w wq [cellsR bc 72 #[.int .i64 3, .string X.name, .slice none 0 0, .map (some bm), .bool X.isOpen], cellsR s 64 #[.slice aO k cO, .slice aR k cR, .slice aH k cH, .slice none 0 0], rowR 3 1 (.slice a63 (k + 1) c63) (k + 1) (((List.range k).map en) ++ [.int .i64 (k : Int)]), rowR 3 1 (.slice aR k cR) k ((List.replicate k 0).map en), rowR 72 5 (.slice aH k cH) k (hasCells cs (List.range k)), cellsR bn 40 #[.int .i64 3, .string X.name, .slice ax X.args.length cx, .slice lx X.labels.length dx, .bool X.isOpen], cellsR bg 24 #[.slice (some ⟨b1, o1, none⟩) f.ns.length ca, .int .i64 f.root], mapsR (cs ++ [⟨X, none, 0, 0, some bm, bm⟩])]) → G 13 (bt 32 2047999) ((a0.put (some 62) (.slice (some ⟨b62, 0, none⟩) 1 1)).put (some 63) (.slice a63 (k + 1) c63)) wq) := ⟨by
     intro b62 a63 c63 wq HC
     refine into_G hG ?_
     rw [hA.out]
     have hH := cS.is (w := wq) (⟨HC.out.cell 1 rfl 0 rfl, HC.out.cell 1 rfl 1 rfl, HC.out.cell 1 rfl 2 rfl, HC.out.cell 0 rfl 0 rfl, HC.out.cell 0 rfl 1 rfl, HC.out.cell 0 rfl 2 rfl, HC.out.cell 0 rfl 3 rfl, HC.out.cell 0 rfl 4 rfl⟩)
     refine lTwo 14 21 (by kernel_rfl) ?_ ?_
     ·
      have HN := Tre.hid (HC.out.allocRow #[.int .i64 0] 3 1 1 (by unfold maxLen; omega) rfl)
      have hH2 := cS.is (w := (wq.alloc (.cells #[.int .i64 0] 3))) (⟨HN.out.cell 2 rfl 0 rfl, HN.out.cell 2 rfl 1 rfl, HN.out.cell 2 rfl 2 rfl, HN.out.cell 1 rfl 0 rfl, HN.out.cell 1 rfl 1 rfl, HN.out.cell 1 rfl 2 rfl, HN.out.cell 1 rfl 3 rfl, HN.out.cell 1 rfl 4 rfl⟩)
      refine LStep.made (some 68) (.slice (some ⟨wq.heap.size, 0, none⟩) 1 1) _ (by kernel_rfl) (by kernel_rfl) hH2 ?_
      exact outof_G hG (Z7.out b62 wq.heap.size a63 c63 _ HN) (by kernel_rfl) (by rw [hA.out]; try kernel_rfl)
     ·
      have HN := Tre.hid (HC.out.allocRow #[.int .i64 3, .string X.name, .slice none 0 0, .map (some bm), .bool X.isOpen] 72 5 1 (by unfold maxLen; omega) rfl)
      have hH2 := cS.is (w := (wq.alloc (.cells #[.int .i64 3, .string X.name, .slice none 0 0, .map (some bm), .bool X.isOpen] 72))) (⟨HN.out.cell 2 rfl 0 rfl, HN.out.cell 2 rfl 1 rfl, HN.out.cell 2 rfl 2 rfl, HN.out.cell 1 rfl 0 rfl, HN.out.cell 1 rfl 1 rfl, HN.out.cell 1 rfl 2 rfl, HN.out.cell 1 rfl 3 rfl, HN.out.cell 1 rfl 4 rfl⟩)
      refine LStep.made (some 75) (.slice (some ⟨wq.heap.size, 0, none⟩) 1 1) _ (by kernel_rfl) (by kernel_rfl) hH2 ?_
      exact outof_G hG (Z8.out b62 wq.heap.size a63 c63 _ HN) (by kernel_rfl) (by rw [hA.out]; try kernel_rfl)
    ⟩
    have Z11 : Kept (∀ (b62 : Nat) (b68 : Nat) (wq : World), Hid (Mem w wq [rowR 3 1 (.slice (some ⟨b62, 0, none⟩) 1 1) 1 [.int .i64 (k : Int)], rowR 3 1 (.slice (some ⟨b68, 0, none⟩) 1 1) 1 [.int .i64 0], cellsR bc 72 #[.int .i64 3, .string X.name, .slice none 0 0, .map (some bm), .bool X.isOpen], cellsR s 64 #[.slice aO k cO, .slice aR k cR, .slice aH k cH, .slice none 0 0], rowR 3 1 (.slice aO k cO) k ((List.range k).map en), rowR 3 1 (.slice aR k cR) k ((List.replicate k 0).map en), rowR 72 5 (.slice aH k cH) k (hasCells cs (List.range k)), cellsR bn 40 #[.int .i64 3, .string X.name, .slice ax X.args.length cx, .slice lx X.labels.length dx, .bool X.isOpen], cellsR bg 24 #[.slice (some ⟨b1, o1, none⟩) f.ns.length ca, .int .i64 f.root], mapsR (cs ++ [⟨X, none, 0, 0, some bm, bm⟩])]) → G 13 (bt 32 2063871) ((a0.put (some 62) (.slice (some ⟨b62, 0, none⟩) 1 1)).put (some 68) (.slice (some ⟨b68, 0, none⟩) 1 1)) wq) := ⟨by
     intro b62 b68 wq HC
     refine into_G hG ?_
     rw [hA.out]
     have hH := cS.is (w := wq) (⟨HC.out.cell 3 rfl 0 rfl, HC.out.cell 3 rfl 1 rfl, HC.out.cell 3 rfl 2 rfl, HC.out.cell 2 rfl 0 rfl, HC.out.cell 2 rfl 1 rfl, HC.out.cell 2 rfl 2 rfl, HC.out.cell 2 rfl 3 rfl, HC.out.cell 2 rfl 4 rfl⟩)
     refine lTwo 9 21 (by kernel_rfl) ?_ ?_
     ·
      refine LStep.app (some 63) (.tmp 60) (.tmp 62) 31 (by kernel_rfl) 3 ji _ 1 8 Tryz.underlying31 L1.out L2.out L3.out L4.out rfl (by omega) (.slice aO k cO) k ((List.range k).map en) (by kernel_rfl) (HC.out.row 4 rfl) (some ⟨b62, 0, none⟩) 1 1 [.int .i64 (k : Int)] (by kernel_rfl) (nrowS (HC.out.row 0 rfl)) (by simp [Value.oneCell']) (by unfold maxLen; omega) (by omega) ?_
      intro v' wr hown4 hgrow4 hat4
      have M4 := HC.out.grow 4 rfl hgrow4 hown4 hat4
      obtain ⟨a63, c63, rfl, _⟩ := M4.val 4 rfl
      have HN := Tre.hid (M4.del 0)
      clear M4 hown4 hgrow4 hat4
      refine ⟨⟨HN.out.cell 2 rfl 0 rfl, HN.out.cell 2 rfl 1 rfl, HN.out.cell 2 rfl 2 rfl, HN.out.cell 1 rfl 0 rfl, HN.out.cell 1 rfl 1 rfl, HN.out.cell 1 rfl 2 rfl, HN.out.cell 1 rfl 3 rfl, HN.out.cell 1 rfl 4 rfl⟩, fun hH2 => ?_⟩
      exact outof_G hG (Z7.out b62 b68 a63 c63 wr HN) (by kernel_rfl) (by rw [hA.out]; try kernel_rfl)
     ·
      have HN := Tre.hid (HC.out.allocRow #[.int .i64 3, .string X.name, .slice none 0 0, .map (some bm), .bool X.isOpen] 72 5 1 (by unfold maxLen; omega) rfl)
      have HC := Tre.hid (((HN.out.front 0 rfl).front 2 rfl).front 2 rfl)
      clear HN
      have hH2 := cS.is (w := (wq.alloc (.cells #[.int .i64 3, .string X.name, .slice none 0 0, .map (some bm), .bool X.isOpen] 72))) (⟨HC.out.cell 4 rfl 0 rfl, HC.out.cell 4 rfl 1 rfl, HC.out.cell 4 rfl 2 rfl, HC.out.cell 3 rfl 0 rfl, HC.out.cell 3 rfl 1 rfl, HC.out.cell 3 rfl 2 rfl, HC.out.cell 3 rfl 3 rfl, HC.out.cell 3 rfl 4 rfl⟩)
      refine LStep.made (some 75) (.slice (some ⟨wq.heap.size, 0, none⟩) 1 1) _ (by kernel_rfl) (by kernel_rfl) hH2 ?_
      exact outof_G hG (Z9.out b62 b68 wq.heap.size _ HC) (by kernel_rfl) (by rw [hA.out]; try kernel_rfl)
    ⟩
    have Z12 : Kept (∀ (b62 : Nat) (b75 : Nat) (wq : World), Hid (Mem w wq [rowR 3 1 (.slice (some ⟨b62, 0, none⟩) 1 1) 1 [.int .i64 (k : Int)], rowR 72 5 (.slice (some ⟨b75, 0, none⟩) 1 1) 1 [.int .i64 3, .string X.name, .slice none 0 0, .map (some bm), .bool X.isOpen], cellsR bc 72 #[.int .i64 3, .string X.name, .slice none 0 0, .map (some bm), .bool X.isOpen], cellsR s 64 #[.slice aO k cO, .slice aR k cR, .slice aH k cH, .slice none 0 0], rowR 3 1 (.slice aO k cO) k ((List.range k).map en), rowR 3 1 (.slice aR k cR) k ((List.replicate k 0).map en), rowR 72 5 (.slice aH k cH) k (hasCells cs (List.range k)), cellsR bn 40 #[.int .i64 3, .string X.name, .slice ax X.args.length cx, .slice lx X.labels.length dx, .bool X.isOpen], cellsR bg 24 #[.slice (some ⟨b1, o1, none⟩) f.ns.length ca, .int .i64 f.root], mapsR (cs ++ [⟨X, none, 0, 0, some bm, bm⟩])]) → G 13 (bt 32 4144639) ((a0.put (some 62) (.slice (some ⟨b62, 0, none⟩) 1 1)).put (some 75) (.slice (some ⟨b75, 0, none⟩) 1 1)) wq) := ⟨by
     intro b62 b75 wq HC
     refine into_G hG ?_
     rw [hA.out]
     have hH := cS.is (w := wq) (⟨HC.out.cell 3 rfl 0 rfl, HC.out.cell 3 rfl 1 rfl, HC.out.cell 3 rfl 2 rfl, HC.out.cell 2 rfl 0 rfl, HC.out.cell 2 rfl 1 rfl, HC.out.cell 2 rfl 2 rfl, HC.out.cell 2 rfl 3 rfl, HC.out.cell 2 rfl 4 rfl⟩)
     refine lTwo 9 14 (by kernel_rfl) ?_ ?_
     ·
      refine LStep.app (some 63) (.tmp 60) (.tmp 62) 31 (by kernel_rfl) 3 ji _ 1 8 Tryz.underlying31 L1.out L2.out L3.out L4.out rfl (by omega) (.slice aO k cO) k ((List.range k).map en) (by kernel_rfl) (HC.out.row 4 rfl) (some ⟨b62, 0, none⟩) 1 1 [.int .i64 (k : Int)] (by kernel_rfl) (nrowS (HC.out.row 0 rfl)) (by simp [Value.oneCell']) (by unfold maxLen; omega) (by omega) ?_
      intro v' wr hown4 hgrow4 hat4
      have M4 := HC.out.grow 4 rfl hgrow4 hown4 hat4
      obtain ⟨a63, c63, rfl, _⟩ := M4.val 4 rfl
      have HN := Tre.hid (M4.del 0)
      clear M4 hown4 hgrow4 hat4
      refine ⟨⟨HN.out.cell 2 rfl 0 rfl, HN.out.cell 2 rfl 1 rfl, HN.out.cell 2 rfl 2 rfl, HN.out.cell 1 rfl 0 rfl, HN.out.cell 1 rfl 1 rfl, HN.out.cell 1 rfl 2 rfl, HN.out.cell 1 rfl 3 rfl, HN.out.cell 1 rfl 4 rfl⟩, fun hH2 => ?_⟩
      exact outof_G hG (Z8.out b62 b75 a63 c63 wr HN) (by kernel_rfl) (by rw [hA.out]; try kernel_rfl)
     ·
      have HN := Tre.hid (HC.out.allocRow #[.int .i64 0] 3 1 1 (by unfold maxLen; omega) rfl)
      have HC := Tre.hid ((HN.out.front 0 rfl).front 1 rfl)
      clear HN
      have hH2 := cS.is (w := (wq.alloc (.cells #[.int .i64 0] 3))) (⟨HC.out.cell 4 rfl 0 rfl, HC.out.cell 4 rfl 1 rfl, HC.out.cell 4 rfl 2 rfl, HC.out.cell 3 rfl 0 rfl, HC.out.cell 3 rfl 1 rfl, HC.out.cell 3 rfl 2 rfl, HC.out.cell 3 rfl 3 rfl, HC.out.cell 3 rfl 4 rfl⟩)
      refine LStep.made (some 68) (.slice (some ⟨wq.heap.size, 0, none⟩) 1 1) _ (by kernel_rfl) (by kernel_rfl) hH2 ?_
      exact outof_G hG (Z9.out b62 wq.heap.size b75 _ HC) (by kernel_rfl) (by rw [hA.out]; try kernel_rfl)
    ⟩
    have Z13 : Kept (∀ (b68 : Nat) (b75 : Nat) (wq : World), Hid (Mem w wq [rowR 3 1 (.slice (some ⟨b68, 0, none⟩) 1 1) 1 [.int .i64 0], rowR 72 5 (.slice (some ⟨b75, 0, none⟩) 1 1) 1 [.int .i64 3, .string X.name, .slice none 0 0, .map (some bm), .bool X.isOpen], cellsR bc 72 #[.int .i64 3, .string X.name, .slice none 0 0, .map (some bm), .bool X.isOpen], cellsR s 64 #[.slice aO k cO, .slice aR k cR, .slice aH k cH, .slice none 0 0], rowR 3 1 (.slice aO k cO) k ((List.range k).map en), rowR 3 1 (.slice aR k cR) k ((List.replicate k 0).map en), rowR 72 5 (.slice aH k cH) k (hasCells cs (List.range k)), cellsR bn 40 #[.int .i64 3, .string X.name, .slice ax X.args.length cx, .slice lx X.labels.length dx, .bool X.isOpen], cellsR bg 24 #[.slice (some ⟨b1, o1, none⟩) f.ns.length ca, .int .i64 f.root], mapsR (cs ++ [⟨X, none, 0, 0, some bm, bm⟩])]) → G 13 (bt 32 4160767) ((a0.put (some 68) (.slice (some ⟨b68, 0, none⟩) 1 1)).put (some 75) (.slice (some ⟨b75, 0, none⟩) 1 1)) wq) := ⟨by
     intro b68 b75 wq HC
     refine into_G hG ?_
     rw [hA.out]
     have hH := cS.is (w := wq) (⟨HC.out.cell 3 rfl 0 rfl, HC.out.cell 3 rfl 1 rfl, HC.out.cell 3 rfl 2 rfl, HC.out.cell 2 rfl 0 rfl, HC.out.cell 2 rfl 1 rfl, HC.out.cell 2 rfl 2 rfl, HC.out.cell 2 rfl 3 rfl, HC.out.cell 2 rfl 4 rfl⟩)
     refine lOne 8 (by kernel_rfl) ?_
     ·
      have HN := Tre.hid (HC.out.allocRow #[.int .i64 (k : Int)] 3 1 1 (by unfold maxLen; omega) rfl)
      have hH2 := cS.is (w := (wq.alloc (.cells #[.int .i64 (k : Int)] 3))) (⟨HN.out.cell 4 rfl 0 rfl, HN.out.cell 4 rfl 1 rfl, HN.out.cell 4 rfl 2 rfl, HN.out.cell 3 rfl 0 rfl, HN.out.cell 3 rfl 1 rfl, HN.out.cell 3 rfl 2 rfl, HN.out.cell 3 rfl 3 rfl, HN.out.cell 3 rfl 4 rfl⟩)
      refine LStep.made (some 62) (.slice (some ⟨wq.heap.size, 0, none⟩) 1 1) _ (by kernel_rfl) (by kernel_rfl) hH2 ?_
      exact outof_G hG (Z9.out wq.heap.size b68 b75 _ HN) (by kernel_rfl) (by rw [hA.out]; try kernel_rfl)
    ⟩
    have Z14 : Kept (∀ (b62 : Nat) (wq : World), Hid (Mem w wq [rowR 3 1 (.slice (some ⟨b62, 0, none⟩) 1 1) 1 [.int .i64 (k : Int)], cellsR bc 72 #[.int .i64 3, .string X.name, .slice none 0 0, .map (some bm), .bool X.isOpen], cellsR s 64 #[.slice aO k cO, .slice aR k cR, .slice aH k cH, .slice none 0 0], rowR 3 1 (.slice aO k cO) k ((List.range k).map en), rowR 3 1 (.slice aR k cR) k ((List.replicate k 0).map en), rowR 72 5 (.slice aH k cH) k (hasCells cs (List.range k)), cellsR bn 40 #[.int .i64 3, .string X.name, .slice ax X.args.length cx, .slice lx X.labels.length dx, .bool X.isOpen], cellsR bg 24 #[.slice (some ⟨b1, o1, none⟩) f.ns.length ca, .int .i64 f.root], mapsR (cs ++ [⟨X, none, 0, 0, some bm, bm⟩])]) → G 14 (bt 32 2047487) (a0.put (some 62) (.slice (some ⟨b62, 0, none⟩) 1 1)) wq) := ⟨by
     intro b62 wq HC
     refine into_G hG ?_
     rw [hA.out]
     have hH := cS.is (w := wq) (⟨HC.out.cell 2 rfl 0 rfl, HC.out.cell 2 rfl 1 rfl, HC.out.cell 2 rfl 2 rfl, HC.out.cell 1 rfl 0 rfl, HC.out.cell 1 rfl 1 rfl, HC.out.cell 1 rfl 2 rfl, HC.out.cell 1 rfl 3 rfl, HC.out.cell 1 rfl 4 rfl⟩)
     refine lThree 9 14 21 (by kernel_rfl) ?_ ?_ ?_
     ·
      refine LStep.app (some 63) (.tmp 60) (.tmp 62) 31 (by kernel_rfl) 3 ji _ 1 8 Tryz.underlying31 L1.out L2.out L3.out L4.out rfl (by omega) (.slice aO k cO) k ((List.range k).map en) (by kernel_rfl) (HC.out.row 3 rfl) (some ⟨b62, 0, none⟩) 1 1 [.int .i64 (k : Int)] (by kernel_rfl) (nrowS (HC.out.row 0 rfl)) (by simp [Value.oneCell']) (by unfold maxLen; omega) (by omega) ?_
      intro v' wr hown4 hgrow4 hat4
      have M4 := HC.out.grow 3 rfl hgrow4 hown4 hat4
      obtain ⟨a63, c63, rfl, _⟩ := M4.val 3 rfl
      have HN := Tre.hid (M4.del 0)
      clear M4 hown4 hgrow4 hat4
      refine ⟨⟨HN.out.cell 1 rfl 0 rfl, HN.out.cell 1 rfl 1 rfl, HN.out.cell 1 rfl 2 rfl, HN.out.cell 0 rfl 0 rfl, HN.out.cell 0 rfl 1 rfl, HN.out.cell 0 rfl 2 rfl, HN.out.cell 0 rfl 3 rfl, HN.out.cell 0 rfl 4 rfl⟩, fun hH2 => ?_⟩
      exact outof_G hG (Z10.out b62 a63 c63 wr HN) (by kernel_rfl) (by rw [hA.out]; try kernel_rfl)
     ·
      have HN := Tre.hid (HC.out.allocRow #[.int .i64 0] 3 1 1 (by unfold maxLen; omega) rfl)
      have HC := Tre.hid ((HN.out.front 0 rfl).front 1 rfl)
      clear HN
      have hH2 := cS.is (w := (wq.alloc (.cells #[.int .i64 0] 3))) (⟨HC.out.cell 3 rfl 0 rfl, HC.out.cell 3 rfl 1 rfl, HC.out.cell 3 rfl 2 rfl, HC.out.cell 2 rfl 0 rfl, HC.out.cell 2 rfl 1 rfl, HC.out.cell 2 rfl 2 rfl, HC.out.cell 2 rfl 3 rfl, HC.out.cell 2 rfl 4 rfl⟩)
      refine LStep.made (some 68) (.slice (some ⟨wq.heap.size, 0, none⟩) 1 1) _ (by kernel_rfl) (by kernel_rfl) hH2 ?_
      exact outof_G hG (Z11.out b62 wq.heap.size _ HC) (by kernel_rfl) (by rw [hA.out]; try kernel_rfl)
     ·
      have HN := Tre.hid (HC.out.allocRow #[.int .i64 3, .string X.name, .slice none 0 0, .map (some bm), .bool X.isOpen] 72 5 1 (by unfold maxLen; omega) rfl)
      have HC := Tre.hid ((HN.out.front 0 rfl).front 1 rfl)
      clear HN
      have hH2 := cS.is (w := (wq.alloc (.cells #[.int .i64 3, .string X.name, .slice none 0 0, .map (some bm), .bool X.isOpen] 72))) (⟨HC.out.cell 3 rfl 0 rfl, HC.out.cell 3 rfl 1 rfl, HC.out.cell 3 rfl 2 rfl, HC.out.cell 2 rfl 0 rfl, HC.out.cell 2 rfl 1 rfl, HC.out.cell 2 rfl 2 rfl, HC.out.cell 2 rfl 3 rfl, HC.out.cell 2 rfl 4 rfl⟩)
      refine LStep.made (some 75) (.slice (some ⟨wq.heap.size, 0, none⟩) 1 1) _ (by kernel_rfl) (by kernel_rfl) hH2 ?_
      exact outof_G hG (Z12.out b62 wq.heap.size _ HC) (by kernel_rfl) (by rw [hA.out]; try kernel_rfl)
    ⟩
    have Z15 : Kept (∀ (b68 : Nat) (wq : World), Hid (Mem w wq [rowR 3 1 (.slice (some ⟨b68, 0, none⟩) 1 1) 1 [.int .i64 0], cellsR bc 72 #[.int .i64 3, .string X.name, .slice none 0 0, .map (some bm), .bool X.isOpen], cellsR s 64 #[.slice aO k cO, .slice aR k cR, .slice aH k cH, .slice none 0 0], rowR 3 1 (.slice aO k cO) k ((List.range k).map en), rowR 3 1 (.slice aR k cR) k ((List.replicate k 0).map en), rowR 72 5 (.slice aH k cH) k (hasCells cs (List.range k)), cellsR bn 40 #[.int .i64 3, .string X.name, .slice ax X.args.length cx, .slice lx X.labels.length dx, .bool X.isOpen], cellsR bg 24 #[.slice (some ⟨b1, o1, none⟩) f.ns.length ca, .int .i64 f.root], mapsR (cs ++ [⟨X, none, 0, 0, some bm, bm⟩])]) → G 14 (bt 32 2063615) (a0.put (some 68) (.slice (some ⟨b68, 0, none⟩) 1 1)) wq) := ⟨by
     intro b68 wq HC
     refine into_G hG ?_
     rw [hA.out]
     have hH := cS.is (w := wq) (⟨HC.out.cell 2 rfl 0 rfl, HC.out.cell 2 rfl 1 rfl, HC.out.cell 2 rfl 2 rfl, HC.out.cell 1 rfl 0 rfl, HC.out.cell 1 rfl 1 rfl, HC.out.cell 1 rfl 2 rfl, HC.out.cell 1 rfl 3 rfl, HC.out.cell 1 rfl 4 rfl⟩)
     refine lTwo 8 21 (by kernel_rfl) ?_ ?_
     ·
      have HN := Tre.hid (HC.out.allocRow #[.int .i64 (k : Int)] 3 1 1 (by unfold maxLen; omega) rfl)
      have hH2 := cS.is (w := (wq.alloc (.cells #[.int .i64 (k : Int)] 3))) (⟨HN.out.cell 3 rfl 0 rfl, HN.out.cell 3 rfl 1 rfl, HN.out.cell 3 rfl 2 rfl, HN.out.cell 2 rfl 0 rfl, HN.out.cell 2 rfl 1 rfl, HN.out.cell 2 rfl 2 rfl, HN.out.cell 2 rfl 3 rfl, HN.out.cell 2 rfl 4 rfl⟩)
      refine LStep.made (some 62) (.slice (some ⟨wq.heap.size, 0, none⟩) 1 1) _ (by kernel_rfl) (by kernel_rfl) hH2 ?_
      exact outof_G hG (Z11.out wq.heap.size b68 _ HN) (by kernel_rfl) (by rw [hA.out]; try kernel_rfl)
     ·
      have HN := Tre.hid (HC.out.allocRow #[.int .i64 3, .string X.name, .slice none 0 0, .map (some bm), .bool X.isOpen] 72 5 1 (by unfold maxLen; omega) rfl)
      have HC := Tre.hid ((HN.out.front 0 rfl).front 1 rfl)
      clear HN
      have hH2 := cS.is (w := (wq.alloc (.cells #[.int .i64 3, .string X.name, .slice none 0 0, .map (some bm), .bool X.isOpen] 72))) (⟨HC.out.cell 3 rfl 0 rfl, HC.out.cell 3 rfl 1 rfl, HC.out.cell 3 rfl 2 rfl, HC.out.cell 2 rfl 0 rfl, HC.out.cell 2 rfl 1 rfl, HC.out.cell 2 rfl 2 rfl, HC.out.cell 2 rfl 3 rfl, HC.out.cell 2 rfl 4 rfl⟩)
      refine LStep.made (some 75) (.slice (some ⟨wq.heap.size, 0, none⟩) 1 1) _ (by kernel_rfl) (by kernel_rfl) hH2 ?_
      exact outof_G hG (Z13.out b68 wq.heap.size _ HC) (by kernel_rfl) (by rw [hA.out]; try kernel_rfl)
    ⟩
    have Z16 : Kept (∀ (b75 : Nat) (wq : World), Hid (Mem w wq [rowR 72 5 (.slice (some ⟨b75, 0, none⟩) 1 1) 1 [.int .i64 3, .string X.name, .slice none 0 0, .map (some bm), .bool X.isOpen], cellsR bc 72 #[.int .i64 3, .string X.name, .slice none 0 0, .map (some bm), .bool X.isOpen], cellsR s 64 #[.slice aO k cO, .slice aR k cR, .slice aH k cH, .slice none 0 0], rowR 3 1 (.slice aO k cO) k ((List.range k).map en), rowR 3 1 (.slice aR k cR) k ((List.replicate k 0).map en), rowR 72 5 (.slice aH k cH) k (hasCells cs (List.range k)), cellsR bn 40 #[.int .i64 3, .string X.name, .slice ax X.args.length cx, .slice lx X.labels.length dx, .bool X.isOpen], cellsR bg 24 #[.slice (some ⟨b1, o1, none⟩) f.ns.length ca, .int .i64 f.root], mapsR (cs ++ [⟨X, none, 0, 0, some bm, bm⟩])]) → G 14 (bt 32 4144383) (a0.put (some 75) (.slice (some ⟨b75, 0, none⟩) 1 1)) wq) := ⟨by
     intro b75 wq HC
     refine into_G hG ?_
     rw [hA.out]
     have hH := cS.is (w := wq) (⟨HC.out.cell 2 rfl 0 rfl, HC.out.cell 2 rfl 1 rfl, HC.out.cell 2 rfl 2 rfl, HC.out.cell 1 rfl 0 rfl, HC.out.cell 1 rfl 1 rfl, HC.out.cell 1 rfl 2 rfl, HC.out.cell 1 rfl 3 rfl, HC.out.cell 1 rfl 4 rfl⟩)
     refine lTwo 8 14 (by kernel_rfl) ?_ ?_
     ·
      have HN := Tre.hid (HC.out.allocRow #[.int .i64 (k : Int)] 3 1 1 (by unfold maxLen; omega) rfl)
      have hH2 := cS.is (w := (wq.alloc (.cells #[.int .i64 (k : Int)] 3))) (⟨HN.out.cell 3 rfl 0 rfl, HN.out.cell 3 rfl 1 rfl, HN.out.cell 3 rfl 2 rfl, HN.out.cell 2 rfl 0 rfl, HN.out.cell 2 rfl 1 rfl, HN.out.cell 2 rfl 2 rfl, HN.out.cell 2 rfl 3 rfl, HN.out.cell 2 rfl 4 rfl⟩)
      refine LStep.made (some 62) (.slice (some ⟨wq.heap.size, 0, none⟩) 1 1) _ (by kernel_rfl) (by kernel_rfl) hH2 ?_
      exact outof_G hG (Z12.out wq.heap.size b75 _ HN) (by kernel_rfl) (by rw [hA.out]; try kernel_rfl)
     ·
      have HN := Tre.hid (HC.out.allocRow #[.int .i64 0] 3 1 1 (by unfold maxLen; omega) rfl)
      have hH2 := cS.is (w := (wq.alloc (.cells #[.int .i64 0] 3))) (⟨HN.out.cell 3 rfl 0 rfl, HN.out.cell 3 rfl 1 rfl, HN.out.cell 3 rfl 2 rfl, HN.out.cell 2 rfl 0 rfl, HN.out.cell 2 rfl 1 rfl, HN.out.cell 2 rfl 2 rfl, HN.out.cell 2 rfl 3 rfl, HN.out.cell 2 rfl 4 rfl⟩)
      refine LStep.made (some 68) (.slice (some ⟨wq.heap.size, 0, none⟩) 1 1) _ (by kernel_rfl) (by kernel_rfl) hH2 ?_
      exact outof_G hG (Z13.out wq.heap.size b75 _ HN) (by kernel_rfl) (by rw [hA.out]; try kernel_rfl)
    ⟩
    have Z17 : Kept (∀ (wq : World), Hid (Mem w wq [cellsR bc 72 #[.int .i64 3, .string X.name, .slice none 0 0, .map (some bm), .bool X.isOpen], cellsR s 64 #[.slice aO k cO, .slice aR k cR, .slice aH k cH, .slice none 0 0], rowR 3 1 (.slice aO k cO) k ((List.range k).map en), rowR 3 1 (.slice aR k cR) k ((List.replicate k 0).map en), rowR 72 5 (.slice aH k cH) k (hasCells cs (List.range k)), cellsR bn 40 #[.int .i64 3, .string X.name, .slice ax X.args.length cx, .slice lx X.labels.length dx, .bool X.isOpen], cellsR bg 24 #[.slice (some ⟨b1, o1, none⟩) f.ns.length ca, .int .i64 f.root], mapsR (cs ++ [⟨X, none, 0, 0, some bm, bm⟩])]) → G 15 (bt 32 2047231) (a0) wq) := ⟨by
     intro  wq HC
     refine into_G hG ?_
     rw [hA.out]
     have hH := cS.is (w := wq) (⟨HC.out.cell 1 rfl 0 rfl, HC.out.cell 1 rfl 1 rfl, HC.out.cell 1 rfl 2 rfl, HC.out.cell 0 rfl 0 rfl, HC.out.cell 0 rfl 1 rfl, HC.out.cell 0 rfl 2 rfl, HC.out.cell 0 rfl 3 rfl, HC.out.cell 0 rfl 4 rfl⟩)
     refine lThree 8 14 21 (by kernel_rfl) ?_ ?_ ?_
     ·
      have HN := Tre.hid (HC.out.allocRow #[.int .i64 (k : Int)] 3 1 1 (by unfold maxLen; omega) rfl)
      have hH2 := cS.is (w := (wq.alloc (.cells #[.int .i64 (k : Int)] 3))) (⟨HN.out.cell 2 rfl 0 rfl, HN.out.cell 2 rfl 1 rfl, HN.out.cell 2 rfl 2 rfl, HN.out.cell 1 rfl 0 rfl, HN.out.cell 1 rfl 1 rfl, HN.out.cell 1 rfl 2 rfl, HN.out.cell 1 rfl 3 rfl, HN.out.cell 1 rfl 4 rfl⟩)
      refine LStep.made (some 62) (.slice (some ⟨wq.heap.size, 0, none⟩) 1 1) _ (by kernel_rfl) (by kernel_rfl) hH2 ?_
      exact outof_G hG (Z14.out wq.heap.size _ HN) (by kernel_rfl) (by rw [hA.out]; try kernel_rfl)
     ·
      have HN := Tre.hid (HC.out.allocRow #[.int .i64 0] 3 1 1 (by unfold maxLen; omega) rfl)
      have hH2 := cS.is (w := (wq.alloc (.cells #[.int .i64 0] 3))) (⟨HN.out.cell 2 rfl 0 rfl, HN.out.cell 2 rfl 1 rfl, HN.out.cell 2 rfl 2 rfl, HN.out.cell 1 rfl 0 rfl, HN.out.cell 1 rfl 1 rfl, HN.out.cell 1 rfl 2 rfl, HN.out.cell 1 rfl 3 rfl, HN.out.cell 1 rfl 4 rfl⟩)
      refine LStep.made (some 68) (.slice (some ⟨wq.heap.size, 0, none⟩) 1 1) _ (by kernel_rfl) (by kernel_rfl) hH2 ?_
      exact outof_G hG (Z15.out wq.heap.size _ HN) (by kernel_rfl) (by rw [hA.out]; try kernel_rfl)
     ·
      have HN := Tre.hid (HC.out.allocRow #[.int .i64 3, .string X.name, .slice none 0 0, .map (some bm), .bool X.isOpen] 72 5 1 (by unfold maxLen; omega) rfl)
      have hH2 := cS.is (w := (wq.alloc (.cells #[.int .i64 3, .string X.name, .slice none 0 0, .map (some bm), .bool X.isOpen] 72))) (⟨HN.out.cell 2 rfl 0 rfl, HN.out.cell 2 rfl 1 rfl, HN.out.cell 2 rfl 2 rfl, HN.out.cell 1 rfl 0 rfl, HN.out.cell 1 rfl 1 rfl, HN.out.cell 1 rfl 2 rfl, HN.out.cell 1 rfl 3 rfl, HN.out.cell 1 rfl 4 rfl⟩)
      refine LStep.made (some 75) (.slice (some ⟨wq.heap.size, 0, none⟩) 1 1) _ (by kernel_rfl) (by kernel_rfl) hH2 ?_
      exact outof_G hG (Z16.out wq.heap.size _ HN) (by kernel_rfl) (by rw [hA.out]; try kernel_rfl)
    ⟩
    exact Z17.out  wq0 HC
 ·have e : k = f.ns.length := by omega
  have HM' := HM.out
  have HCL' := HCL.out
  have HCK' := HCK.out
  rw [e] at HM' HCL' HCK'
  have HM2 := Tre.hid HM'
  have HC1 := Tre.hid HCL'
  have HC2 := Tre.hid HCK'
  clear HM HM' HCL HCL' HCK HCK' e
  go_wp2_with fail
  go_ret
  exact ⟨s, cs, aO, cO, aR, cR, aH, cH, rfl, HC1.out, HC2.out, HM2.out.del 4⟩
end Go.Proofs.YtlkfhbmjemjohaaGreatDoor.sol
