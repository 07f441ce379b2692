/- The reference's Copy. -/
import Derived.Test.YtgngnkajjldnlaaRreach
import Derived.Test.YtgngnkajjldnlaaNodv
import Derived.Deep.AppendLies
import Derived.Deep.DeepCutAuto
import Derived.Test.YtgngnkajjldnlaaRegm
import Derived.Test.YtgngnkajjldnlaaRegw
import Derived.Test.YtgngnkajjldnlaaApp
namespace Go.Proofs.Ytgngnkajjldnlaa.gr
open Go.RowKit Go.Shelf Go.Maps Go.Tre lex
theorem five {w0 w : World} {rs : List Res} {b : Nat} {t : TypeId} {x0 x1 x2 x3 x4 : Value} (h : Mem w0 w rs) (i : Nat) (hi : rs[i]? = some (cellsR b t #[x0, x1, x2, x3, x4])) :
    w.cell? ⟨b, 0, none⟩ = some x0 ∧ w.cell? ⟨b, 1, none⟩ = some x1 ∧ w.cell? ⟨b, 2, none⟩ = some x2 ∧ w.cell? ⟨b, 3, none⟩ = some x3 ∧ w.cell? ⟨b, 4, none⟩ = some x4 :=
  ⟨h.cell i hi 0 rfl, h.cell i hi 1 rfl, h.cell i hi 2 rfl, h.cell i hi 3 rfl, h.cell i hi 4 rfl⟩
theorem infoS : (Try.prog.info? 9).map (fun i => (i.zero, i.size, i.bytes)) = some (some (.string ByteArray.empty), 1, 16) := by kernel_rfl

set_option maxRecDepth 100000 in
set_option maxHeartbeats 8000000 in
theorem refCopy (n : Tre.Node) (aa : Option Addr) (ca : Nat) (al : Option Addr) (cl : Nat) (gt m ct : Nat) (f : Int → Int) (w : World) (ha : IntsAt w aa n.args) (hl : StrsAt w al n.labels) (hw : n.weight ≤ 8388608)
    (hto : ∀ z ∈ n.args, ∃ y : Nat, z = y ∧ y < m ∧ w.cell? ⟨gt, y, none⟩ = some (.int .i64 (f z))) :
    Calls Try.prog 34 #[nodeVal n aa ca al cl, .slice (some ⟨gt, 0, none⟩) m ct] w fun e w' =>
      ∃ va vl, e = .returned (.agg #[.int .i64 n.kind, .string n.name, va, vl, .bool n.isOpen]) ∧ Mem w w' [rowR 3 1 va n.args.length ((n.args.map f).map (Value.int .i64)), rowR 9 1 vl n.labels.length (n.labels.map Value.string)] := by
  have M := ((Mem.nil w).allocR #[.int .i64 n.kind, .string n.name, .slice aa n.args.length ca, .slice al n.labels.length cl, .bool n.isOpen] 33).allocR #[.int .i64 0, .string ByteArray.empty, .slice none 0 0, .slice none 0 0, .bool false] 33
  rw [show (w.alloc (.cells #[.int .i64 n.kind, .string n.name, .slice aa n.args.length ca, .slice al n.labels.length cl, .bool n.isOpen] 33)).heap.size = w.heap.size + 1 by simp] at M
  have HM0 := Tre.hid M
  have h1 := args_len n
  have h2 := labels_len n
  have HA := Tre.hid ha
  have HL := Tre.hid hl
  have HTO := Tre.hid hto
  obtain ⟨is, S1, S2, S3, S4⟩ := info_parts infoS
  have Q1 := Tre.hid S1
  have Q2 := Tre.hid S2
  have Q3 := Tre.hid S3
  have Q4 := Tre.hid S4
  clear M ha hl hto S1 S2 S3 S4
  go_enter Try.func34, Try.ntmps34
  go_upto_region 1 with fail
  have MD : Mem w ((w.alloc (.cells #[.int .i64 n.kind, .string n.name, .slice aa n.args.length ca, .slice al n.labels.length cl, .bool n.isOpen] 33)).alloc (.cells #[.int .i64 0, .string ByteArray.empty, .slice none 0 0, .slice none 0 0, .bool false] 33)).drew [cellsR (w.heap.size + 1) 33 #[.int .i64 0, .string ByteArray.empty, .slice none 0 0, .slice none 0 0, .bool false], cellsR w.heap.size 33 #[.int .i64 n.kind, .string n.name, .slice aa n.args.length ca, .slice al n.labels.length cl, .bool n.isOpen]] := HM0.out.drew
  have hsz : (((w.alloc (.cells #[.int .i64 n.kind, .string n.name, .slice aa n.args.length ca, .slice al n.labels.length cl, .bool n.isOpen] 33)).alloc (.cells #[.int .i64 0, .string ByteArray.empty, .slice none 0 0, .slice none 0 0, .bool false] 33)).drew).heap.size = w.heap.size + 1 + 1 := by
    show ((w.alloc _).alloc _).heap.size = _
    rw [World.size_alloc, World.size_alloc]
  go_cut [5] (fun s5 wx => ∃ (B : Nat) (vl : Value), s5 = .pointer (some ⟨B, 0, none⟩) ∧ Hid (Mem w wx [cellsR B 33 #[.int .i64 n.kind, .string n.name, .slice none 0 0, vl, .bool n.isOpen], rowR 9 1 vl n.labels.length (n.labels.map Value.string), cellsR (w.heap.size + 1) 33 #[.int .i64 0, .string ByteArray.empty, .slice none 0 0, .slice none 0 0, .bool false], cellsR w.heap.size 33 #[.int .i64 n.kind, .string n.name, .slice aa n.args.length ca, .slice al n.labels.length cl, .bool n.isOpen]]))
  case first =>
    refine wp_region_held_drew (S := (fun w' => w'.cell? ⟨w.heap.size, 0, none⟩ = some (.int .i64 n.kind) ∧ w'.cell? ⟨w.heap.size, 1, none⟩ = some (.string n.name) ∧ w'.cell? ⟨w.heap.size, 2, none⟩ = some (.slice aa n.args.length ca) ∧ w'.cell? ⟨w.heap.size, 3, none⟩ = some (.slice al n.labels.length cl) ∧ w'.cell? ⟨w.heap.size, 4, none⟩ = some (.bool n.isOpen))) (by kernel_rfl) ?_ (fun hH0 => ?_)
    · exact five MD 1 rfl
    refine hTake (i := 0) (some 8) (v := ?_) (by rfl) (by kernel_rfl) (by kernel_rfl) (by kernel_rfl) (fun _ _ _ h => h) (by rfl) ?_ hH0 ?_
    rotate_left
    · intro w hSw; (try dsimp only at hSw); simp only [List.getElem?_toArray, List.getElem?_cons_zero, Option.map_some, Option.some.injEq]; (first | (go_simp; done) | (go_simp; with_reducible rfl))
    try simp only [Act.put, List.setIfInBounds_toArray, List.set_cons_zero, List.set_cons_succ]
    refine hTake (i := 1) (some 9) (v := ?_) (by rfl) (by kernel_rfl) (by kernel_rfl) (by kernel_rfl) (fun _ _ _ h => h) (by rfl) ?_ hH0 ?_
    rotate_left
    · intro w hSw; (try dsimp only at hSw); simp only [List.getElem?_toArray, List.getElem?_cons_succ, List.getElem?_cons_zero, Option.map_some, Option.some.injEq]; (first | (go_simp; done) | (go_simp; with_reducible rfl))
    try simp only [Act.put, List.setIfInBounds_toArray, List.set_cons_zero, List.set_cons_succ]
    refine hTake (i := 2) (some 10) (v := ?_) (by rfl) (by kernel_rfl) (by kernel_rfl) (by kernel_rfl) (fun _ _ _ h => h) (by rfl) ?_ hH0 ?_
    rotate_left
    · intro w hSw; (try dsimp only at hSw); simp only [List.getElem?_toArray, List.getElem?_cons_succ, List.getElem?_cons_zero, Option.map_some, Option.some.injEq]; (first | (go_simp; done) | (go_simp; with_reducible rfl))
    try simp only [Act.put, List.setIfInBounds_toArray, List.set_cons_zero, List.set_cons_succ]
    refine hTake (i := 3) (some 11) (v := ?_) (by rfl) (by kernel_rfl) (by kernel_rfl) (by kernel_rfl) (fun _ _ _ h => h) (by rfl) ?_ hH0 ?_
    rotate_left
    · intro w hSw; (try dsimp only at hSw); simp only [List.getElem?_toArray, List.getElem?_cons_succ, List.getElem?_cons_zero, Option.map_some, Option.some.injEq]; (first | (go_simp; done) | (go_simp; with_reducible rfl))
    try simp only [Act.put, List.setIfInBounds_toArray, List.set_cons_zero, List.set_cons_succ]
    refine hTake (i := 4) (some 12) (v := ?_) (by rfl) (by kernel_rfl) (by kernel_rfl) (by kernel_rfl) (fun _ _ _ h => h) (by rfl) ?_ hH0 ?_
    rotate_left
    · intro w hSw; (try dsimp only at hSw); simp only [List.getElem?_toArray, List.getElem?_cons_succ, List.getElem?_cons_zero, Option.map_some, Option.some.injEq]; (first | (go_simp; done) | (go_simp; with_reducible rfl))
    try simp only [Act.put, List.setIfInBounds_toArray, List.set_cons_zero, List.set_cons_succ]
    refine hTake (i := 5) (some 13) (v := ?_) (by rfl) (by kernel_rfl) (by kernel_rfl) (by kernel_rfl) (fun _ _ _ h => h) (by rfl) ?_ hH0 ?_
    rotate_left
    · intro w hSw; (try dsimp only at hSw); simp only [List.getElem?_toArray, List.getElem?_cons_succ, List.getElem?_cons_zero, Option.map_some, Option.some.injEq]; (first | (go_simp; done) | (go_simp; with_reducible rfl))
    try simp only [Act.put, List.setIfInBounds_toArray, List.set_cons_zero, List.set_cons_succ]
    refine hTake (i := 7) (some 15) (v := ?_) (by rfl) (by kernel_rfl) (by kernel_rfl) (by kernel_rfl) (fun _ _ _ h => h) (by rfl) ?_ hH0 ?_
    rotate_left
    · intro w hSw; (try dsimp only at hSw); simp only [List.getElem?_toArray, List.getElem?_cons_succ, List.getElem?_cons_zero, Option.map_some, Option.some.injEq]; (first | (go_simp; done) | (go_simp; with_reducible rfl))
    try simp only [Act.put, List.setIfInBounds_toArray, List.set_cons_zero, List.set_cons_succ]
    refine hTake (i := 8) (some 16) (v := ?_) (by rfl) (by kernel_rfl) (by kernel_rfl) (by kernel_rfl) (fun _ _ _ h => h) (by rfl) ?_ hH0 ?_
    rotate_left
    · intro w hSw; (try dsimp only at hSw); simp only [List.getElem?_toArray, List.getElem?_cons_succ, List.getElem?_cons_zero, Option.map_some, Option.some.injEq]; (first | (go_simp; done) | (go_simp; with_reducible rfl))
    try simp only [Act.put, List.setIfInBounds_toArray, List.set_cons_zero, List.set_cons_succ]
    refine hTwo 6 11 (by kernel_rfl) (fun K hK => ?_) (fun K hK => ?_)
    · -- 14
      go_simp
      have HE := Tre.hid (MD.allocRow #[] 9 1 0 (by unfold maxLen; omega) rfl)
      rw [hsz] at HE
      refine hK.out _ _ ?_ (fun hH1 => ?_)
      · exact five HE.out 2 rfl
      clear hK K hH0
      try simp only [Act.put, List.setIfInBounds_toArray, List.set_cons_zero, List.set_cons_succ]
      refine hTwo 9 11 (by kernel_rfl) (fun K hK => ?_) (fun K hK => ?_)
      · -- 17
        simp only [List.getElem?_toArray, List.getElem?_cons_succ, List.getElem?_cons_zero]
        rw [if_pos (by rfl)]
        refine wp_append_row _ _ _ 31 (by rfl) 9 is _ 1 16 Try.underlying31 Q1.out Q2.out Q3.out Q4.out rfl (by omega) (.slice (some ⟨w.heap.size + 1 + 1, 0, none⟩) 0 0) 0 [] (by rfl) (HE.out.row 0 rfl) al n.labels.length cl (n.labels.map Value.string) (by rfl) (HL.out.below HE.out.below) (fun u hu => by obtain ⟨s, _, rfl⟩ := List.mem_map.1 hu; rfl) (by unfold maxLen; omega) (by omega) ?_
        intro v' w4 hown4 hgrow4 hat4
        simp only [Nat.zero_add, List.nil_append] at hown4
        have M4 := HE.out.grow 0 rfl hgrow4 hown4 hat4
        obtain ⟨a4, c4, rfl, _⟩ := M4.val 0 rfl
        have H4 := Tre.hid M4
        clear M4 hown4 hgrow4 hat4
        (try dsimp only)
        refine hK.out _ _ ?_ (fun hH2 => ?_)
        · exact five H4.out 2 rfl
        clear hK K hH1
        try simp only [Act.put, List.setIfInBounds_toArray, List.set_cons_zero, List.set_cons_succ]
        refine hTake (i := 10) (some 18) (v := ?_) (by rfl) (by kernel_rfl) (by kernel_rfl) (by kernel_rfl) (fun _ _ _ h => h) (by rfl) ?_ hH2 ?_
        rotate_left
        · intro w hSw; (try dsimp only at hSw); simp only [List.getElem?_toArray, List.getElem?_cons_succ, List.getElem?_cons_zero, Option.map_some, Option.some.injEq]; (first | (go_simp; done) | (go_simp; with_reducible rfl))
        try simp only [Act.put, List.setIfInBounds_toArray, List.set_cons_zero, List.set_cons_succ]
        refine hOne 11 (by kernel_rfl) (fun K hK => ?_)
        go_simp
        have HZ := Tre.hid (H4.out.allocR #[.int .i64 0, .string ByteArray.empty, .slice none 0 0, .slice none 0 0, .bool false] 33)
        refine hK.out _ _ ?_ (fun hH3 => ?_)
        · exact five HZ.out 3 rfl
        clear hK K hH2
        try simp only [Act.put, List.setIfInBounds_toArray, List.set_cons_zero, List.set_cons_succ]
        refine hOne 12 (by kernel_rfl) (fun K hK => ?_)
        go_simp
        refine hK.out _ _ ?_ (fun hH4 => ?_)
        · exact five (H4.out.allocR #[.int .i64 n.kind, .string n.name, .slice none 0 0, .slice a4 n.labels.length c4, .bool n.isOpen] 33) 3 rfl
        clear hK K hH3
        try simp only [Act.put, List.setIfInBounds_toArray, List.set_cons_zero, List.set_cons_succ]
        refine wpAnyH_done (by kernel_rfl) ?_ _
        clear hH4
        go_wp2_with fail
        go_meet
        exact ⟨_, _, rfl, H4.out.allocR #[.int .i64 n.kind, .string n.name, .slice none 0 0, .slice a4 n.labels.length c4, .bool n.isOpen] 33⟩
      · -- 5
        go_simp
        have HZ := Tre.hid (HE.out.allocR #[.int .i64 0, .string ByteArray.empty, .slice none 0 0, .slice none 0 0, .bool false] 33)
        rw [World.size_alloc, hsz] at HZ
        have z5 := five HZ.out 0 rfl
        refine hK.out _ _ ?_ (fun hH2 => ?_)
        · exact five HZ.out 3 rfl
        clear hK K hH1
        try simp only [Act.put, List.setIfInBounds_toArray, List.set_cons_zero, List.set_cons_succ]
        refine hOne 9 (by kernel_rfl) (fun K hK => ?_)
        simp only [List.getElem?_toArray, List.getElem?_cons_succ, List.getElem?_cons_zero]
        rw [if_pos (by rfl)]
        refine wp_append_row _ _ _ 31 (by rfl) 9 is _ 1 16 Try.underlying31 Q1.out Q2.out Q3.out Q4.out rfl (by omega) (.slice (some ⟨w.heap.size + 1 + 1, 0, none⟩) 0 0) 0 [] (by rfl) (HZ.out.row 1 rfl) al n.labels.length cl (n.labels.map Value.string) (by rfl) (HL.out.below HZ.out.below) (fun u hu => by obtain ⟨s, _, rfl⟩ := List.mem_map.1 hu; rfl) (by unfold maxLen; omega) (by omega) ?_
        intro v' w4 hown4 hgrow4 hat4
        simp only [Nat.zero_add, List.nil_append] at hown4
        have M4 := HZ.out.grow 1 rfl hgrow4 hown4 hat4
        obtain ⟨a4, c4, rfl, _⟩ := M4.val 1 rfl
        have H4 := Tre.hid M4
        clear M4 hown4 hgrow4 hat4
        (try dsimp only)
        have z5 := five H4.out 0 rfl
        refine hK.out _ _ ?_ (fun hH3 => ?_)
        · exact five H4.out 3 rfl
        clear hK K hH2
        try simp only [Act.put, List.setIfInBounds_toArray, List.set_cons_zero, List.set_cons_succ]
        refine hTake (i := 10) (some 18) (v := ?_) (by rfl) (by kernel_rfl) (by kernel_rfl) (by kernel_rfl) (fun _ _ _ h => h) (by rfl) ?_ hH3 ?_
        rotate_left
        · intro w hSw; (try dsimp only at hSw); simp only [List.getElem?_toArray, List.getElem?_cons_succ, List.getElem?_cons_zero, Option.map_some, Option.some.injEq]; (first | (go_simp; done) | (go_simp; with_reducible rfl))
        try simp only [Act.put, List.setIfInBounds_toArray, List.set_cons_zero, List.set_cons_succ]
        refine hOne 12 (by kernel_rfl) (fun K hK => ?_)
        have f0 := H4.out.free 0 rfl 0
        have f1 := H4.out.free 0 rfl 1
        have f2 := H4.out.free 0 rfl 2
        have f3 := H4.out.free 0 rfl 3
        have f4 := H4.out.free 0 rfl 4
        obtain ⟨y0, y1, y2, y3, y4⟩ := z5
        go_simp
        refine hK.out _ _ ?_ (fun hH4 => ?_)
        · exact five (((((H4.out.setCell 0 rfl 0 (.int .i64 n.kind)).setCell 0 rfl 1 (.string n.name)).setCell 0 rfl 2 (.slice none 0 0)).setCell 0 rfl 3 (.slice a4 n.labels.length c4)).setCell 0 rfl 4 (.bool n.isOpen)) 3 rfl
        clear hK K hH3
        try simp only [Act.put, List.setIfInBounds_toArray, List.set_cons_zero, List.set_cons_succ]
        refine wpAnyH_done (by kernel_rfl) ?_ _
        clear hH4
        go_wp2_with fail
        go_meet
        exact ⟨_, _, rfl, ((((H4.out.setCell 0 rfl 0 (.int .i64 n.kind)).setCell 0 rfl 1 (.string n.name)).setCell 0 rfl 2 (.slice none 0 0)).setCell 0 rfl 3 (.slice a4 n.labels.length c4)).setCell 0 rfl 4 (.bool n.isOpen)⟩
    · -- 5
      go_simp
      have HZ := Tre.hid (MD.allocR #[.int .i64 0, .string ByteArray.empty, .slice none 0 0, .slice none 0 0, .bool false] 33)
      rw [hsz] at HZ
      refine hK.out _ _ ?_ (fun hH1 => ?_)
      · exact five HZ.out 2 rfl
      clear hK K hH0
      try simp only [Act.put, List.setIfInBounds_toArray, List.set_cons_zero, List.set_cons_succ]
      refine hOne 6 (by kernel_rfl) (fun K hK => ?_)
      go_simp
      have HE := Tre.hid (HZ.out.allocRow #[] 9 1 0 (by unfold maxLen; omega) rfl)
      rw [World.size_alloc, hsz] at HE
      refine hK.out _ _ ?_ (fun hH2 => ?_)
      · exact five HE.out 3 rfl
      clear hK K hH1
      try simp only [Act.put, List.setIfInBounds_toArray, List.set_cons_zero, List.set_cons_succ]
      refine hOne 9 (by kernel_rfl) (fun K hK => ?_)
      simp only [List.getElem?_toArray, List.getElem?_cons_succ, List.getElem?_cons_zero]
      rw [if_pos (by rfl)]
      refine wp_append_row _ _ _ 31 (by rfl) 9 is _ 1 16 Try.underlying31 Q1.out Q2.out Q3.out Q4.out rfl (by omega) (.slice (some ⟨w.heap.size + 1 + 1 + 1, 0, none⟩) 0 0) 0 [] (by rfl) (HE.out.row 0 rfl) al n.labels.length cl (n.labels.map Value.string) (by rfl) (HL.out.below HE.out.below) (fun u hu => by obtain ⟨s, _, rfl⟩ := List.mem_map.1 hu; rfl) (by unfold maxLen; omega) (by omega) ?_
      intro v' w4 hown4 hgrow4 hat4
      simp only [Nat.zero_add, List.nil_append] at hown4
      have M4 := HE.out.grow 0 rfl hgrow4 hown4 hat4
      obtain ⟨a4, c4, rfl, _⟩ := M4.val 0 rfl
      have H4 := Tre.hid M4
      clear M4 hown4 hgrow4 hat4
      (try dsimp only)
      have z5 := five H4.out 1 rfl
      refine hK.out _ _ ?_ (fun hH3 => ?_)
      · exact five H4.out 3 rfl
      clear hK K hH2
      try simp only [Act.put, List.setIfInBounds_toArray, List.set_cons_zero, List.set_cons_succ]
      refine hTake (i := 10) (some 18) (v := ?_) (by rfl) (by kernel_rfl) (by kernel_rfl) (by kernel_rfl) (fun _ _ _ h => h) (by rfl) ?_ hH3 ?_
      rotate_left
      · intro w hSw; (try dsimp only at hSw); simp only [List.getElem?_toArray, List.getElem?_cons_succ, List.getElem?_cons_zero, Option.map_some, Option.some.injEq]; (first | (go_simp; done) | (go_simp; with_reducible rfl))
      try simp only [Act.put, List.setIfInBounds_toArray, List.set_cons_zero, List.set_cons_succ]
      refine hOne 12 (by kernel_rfl) (fun K hK => ?_)
      have f0 := H4.out.free 1 rfl 0
      have f1 := H4.out.free 1 rfl 1
      have f2 := H4.out.free 1 rfl 2
      have f3 := H4.out.free 1 rfl 3
      have f4 := H4.out.free 1 rfl 4
      obtain ⟨y0, y1, y2, y3, y4⟩ := z5
      go_simp
      refine hK.out _ _ ?_ (fun hH4 => ?_)
      · exact five (((((H4.out.setCell 1 rfl 0 (.int .i64 n.kind)).setCell 1 rfl 1 (.string n.name)).setCell 1 rfl 2 (.slice none 0 0)).setCell 1 rfl 3 (.slice a4 n.labels.length c4)).setCell 1 rfl 4 (.bool n.isOpen)) 3 rfl
      clear hK K hH3
      try simp only [Act.put, List.setIfInBounds_toArray, List.set_cons_zero, List.set_cons_succ]
      refine wpAnyH_done (by kernel_rfl) ?_ _
      clear hH4
      go_wp2_with fail
      go_meet
      exact ⟨_, _, rfl, (((((H4.out.setCell 1 rfl 0 (.int .i64 n.kind)).setCell 1 rfl 1 (.string n.name)).setCell 1 rfl 2 (.slice none 0 0)).setCell 1 rfl 3 (.slice a4 n.labels.length c4)).setCell 1 rfl 4 (.bool n.isOpen)).front 1 rfl⟩
  case rest =>
    obtain ⟨B, vl, rfl, hM⟩ := hcut
    obtain ⟨a3, c3, rfl, _⟩ := hM.out.val 1 rfl
    have z2 : wc.cell? ⟨w.heap.size, 2, none⟩ = some (.slice aa n.args.length ca) := hM.out.cell 3 rfl 2 rfl
    obtain ⟨ii, I1, I2, I3, I4⟩ := info_parts infoI
    have J1 := Tre.hid I1
    have J2 := Tre.hid I2
    have J3 := Tre.hid I3
    have J4 := Tre.hid I4
    clear I1 I2 I3 I4
    go_wp2_with fail
    go_loopw [22] (fun v22 wr => ∃ (k : Nat) (vA : Value), k ≤ n.args.length ∧ v22 = .int .i64 k ∧
        Hid (Mem w wr [rowR 3 1 vA k ((n.args.take k).map fun z => Value.int .i64 (f z)), cellsR B 33 #[.int .i64 n.kind, .string n.name, vA, .slice a3 n.labels.length c3, .bool n.isOpen], rowR 9 1 (.slice a3 n.labels.length c3) n.labels.length (n.labels.map Value.string), cellsR (w.heap.size + 1) 33 #[.int .i64 0, .string ByteArray.empty, .slice none 0 0, .slice none 0 0, .bool false], cellsR w.heap.size 33 #[.int .i64 n.kind, .string n.name, .slice aa n.args.length ca, .slice al n.labels.length cl, .bool n.isOpen]]))
      (fun v22 _ => n.args.length - (intOf v22).toNat)
    case atStart => exact ⟨0, .slice none 0 0, Nat.zero_le _, rfl, hM.out.addNil 3 1⟩
    case round =>
      obtain ⟨k, vA, hk, rfl, hR⟩ := hrel
      obtain ⟨aA, cA, rfl, _⟩ := hR.out.val 0 rfl
      by_cases hlt : k < n.args.length
      · obtain ⟨y, hy, hym, hyc⟩ := HTO.out _ (List.getElem_mem hlt)
        have hyw := hyc
        have hyc := cell_below hR.out.below hyc
        obtain ⟨b, off, rfl, hzc⟩ := HA.out.at_ k (.int .i64 n.args[k]) (by rw [List.getElem?_map, List.getElem?_eq_getElem hlt]; rfl)
        have hzc := cell_below hR.out.below hzc
        obtain ⟨y0, y1, y2, y3, y4⟩ := five hR.out 1 rfl
        have HTK : Hid ((n.args.take (k + 1)).map (fun z => Value.int .i64 (f z)) = (n.args.take k).map (fun z => Value.int .i64 (f z)) ++ [.int .i64 (f n.args[k])]) := by
          show _ = _; rw [List.take_add_one, List.getElem?_eq_getElem hlt, List.map_append]; rfl
        generalize n.args[k] = z at *
        subst hy
        go_upto_region 5 with fail
        have MR := Tre.hid hR.out.drew
        refine wp_region_keep (S := (fun w' => w'.cell? ⟨gt, y, none⟩ = some (.int .i64 (f (y : Int))) ∧ w'.cell? ⟨B, 2, none⟩ = some (.slice aA k cA))) [9] (by kernel_rfl) ?_ (fun hH0 => ?_)
        · exact ⟨hyc, y2⟩
        refine lTake (i := 0) (some 26) (v := ?_) (by rfl) (by kernel_rfl) (by kernel_rfl) (by kernel_rfl) (by kernel_rfl) (by kernel_rfl) (fun _ _ _ h => h) (by rfl) ?_ hH0 ?_
        rotate_left
        · intro w hSw; (try dsimp only at hSw); simp only [List.getElem?_toArray, List.getElem?_cons_zero, Option.map_some, Option.some.injEq]; (first | (go_simp; done) | (go_simp; with_reducible rfl))
        try simp only [Act.put, List.setIfInBounds_toArray, List.set_cons_zero, List.set_cons_succ]
        refine lTake (i := 1) (some 27) (v := ?_) (by rfl) (by kernel_rfl) (by kernel_rfl) (by kernel_rfl) (by kernel_rfl) (by kernel_rfl) (fun _ _ _ h => h) (by rfl) ?_ hH0 ?_
        rotate_left
        · intro w hSw; (try dsimp only at hSw); simp only [List.getElem?_toArray, List.getElem?_cons_succ, List.getElem?_cons_zero, Option.map_some, Option.some.injEq]; (first | (go_simp; done) | (go_simp; with_reducible rfl))
        try simp only [Act.put, List.setIfInBounds_toArray, List.set_cons_zero, List.set_cons_succ]
        refine lTake (i := 2) (some 28) (v := ?_) (by rfl) (by kernel_rfl) (by kernel_rfl) (by kernel_rfl) (by kernel_rfl) (by kernel_rfl) (fun _ _ _ h => h) (by rfl) ?_ hH0 ?_
        rotate_left
        · intro w hSw; (try dsimp only at hSw); simp only [List.getElem?_toArray, List.getElem?_cons_succ, List.getElem?_cons_zero, Option.map_some, Option.some.injEq]; (first | (go_simp; done) | (go_simp; with_reducible rfl))
        try simp only [Act.put, List.setIfInBounds_toArray, List.set_cons_zero, List.set_cons_succ]
        refine lTake (i := 3) (some 29) (v := ?_) (by rfl) (by kernel_rfl) (by kernel_rfl) (by kernel_rfl) (by kernel_rfl) (by kernel_rfl) (fun _ _ _ h => h) (by rfl) ?_ hH0 ?_
        rotate_left
        · intro w hSw; (try dsimp only at hSw); simp only [List.getElem?_toArray, List.getElem?_cons_succ, List.getElem?_cons_zero, Option.map_some, Option.some.injEq]; (first | (go_simp; done) | (go_simp; with_reducible rfl))
        try simp only [Act.put, List.setIfInBounds_toArray, List.set_cons_zero, List.set_cons_succ]
        refine lTake (i := 4) (some 30) (v := ?_) (by rfl) (by kernel_rfl) (by kernel_rfl) (by kernel_rfl) (by kernel_rfl) (by kernel_rfl) (fun _ _ _ h => h) (by rfl) ?_ hH0 ?_
        rotate_left
        · intro w hSw; (try dsimp only at hSw); simp only [List.getElem?_toArray, List.getElem?_cons_succ, List.getElem?_cons_zero, Option.map_some, Option.some.injEq]; (first | (go_simp; done) | (go_simp; with_reducible rfl))
        try simp only [Act.put, List.setIfInBounds_toArray, List.set_cons_zero, List.set_cons_succ]
        refine lTake (i := 5) (some 31) (v := ?_) (by rfl) (by kernel_rfl) (by kernel_rfl) (by kernel_rfl) (by kernel_rfl) (by kernel_rfl) (fun _ _ _ h => h) (by rfl) ?_ hH0 ?_
        rotate_left
        · intro w hSw; (try dsimp only at hSw); simp only [List.getElem?_toArray, List.getElem?_cons_succ, List.getElem?_cons_zero, Option.map_some, Option.some.injEq]; (first | (go_simp; done) | (go_simp; with_reducible rfl))
        try simp only [Act.put, List.setIfInBounds_toArray, List.set_cons_zero, List.set_cons_succ]
        refine lOne 6 (by kernel_rfl) (LStep.op (fun K hK => ?_))
        go_simp
        have HB := Tre.hid (MR.out.allocRow #[.int .i64 (f (y : Int))] 3 1 1 (by unfold maxLen; omega) rfl)
        refine hK.out _ _ ?_ (fun hH1 => ?_)
        · exact ⟨cell_below HB.out.below hyw, HB.out.cell 2 rfl 2 rfl⟩
        clear hK K hH0
        try simp only [Act.put, List.setIfInBounds_toArray, List.set_cons_zero, List.set_cons_succ]
        refine lOne 7 (by kernel_rfl) (LStep.op (fun K hK => ?_))
        simp only [List.getElem?_toArray, List.getElem?_cons_succ, List.getElem?_cons_zero]
        rw [if_pos (by rfl)]
        refine wp_append_row _ _ _ 30 (by rfl) 3 ii _ 1 8 Try.underlying30 J1.out J2.out J3.out J4.out rfl (by omega) (.slice aA k cA) k ((n.args.take k).map fun z => Value.int .i64 (f z)) (by rfl) (HB.out.row 1 rfl) (some ⟨wr.heap.size, 0, none⟩) 1 1 [.int .i64 (f (y : Int))] (by rfl) ⟨rfl, fun j u hj => ⟨_, 0, rfl, by rw [Nat.zero_add]; exact HB.out.cellAt 0 rfl j hj⟩⟩ (by simp [Value.oneCell']) (by unfold maxLen; omega) (by omega) ?_
        intro v' w4 hown4 hgrow4 hat4
        have M4 := HB.out.grow 1 rfl hgrow4 hown4 hat4
        obtain ⟨a4, c4, rfl, _⟩ := M4.val 1 rfl
        have H4 := Tre.hid M4
        clear M4 hown4 hgrow4 hat4
        (try dsimp only)
        refine hK.out _ _ ?_ (fun hH2 => ?_)
        · exact ⟨cell_below H4.out.below hyw, H4.out.cell 2 rfl 2 rfl⟩
        clear hK K hH1
        try simp only [Act.put, List.setIfInBounds_toArray, List.set_cons_zero, List.set_cons_succ]
        refine lTake (i := 8) (some 34) (v := ?_) (by rfl) (by kernel_rfl) (by kernel_rfl) (by kernel_rfl) (by kernel_rfl) (by kernel_rfl) (fun _ _ _ h => h) (by rfl) ?_ hH2 ?_
        rotate_left
        · intro w hSw; (try dsimp only at hSw); simp only [List.getElem?_toArray, List.getElem?_cons_succ, List.getElem?_cons_zero, Option.map_some, Option.some.injEq]; (first | (go_simp; done) | (go_simp; with_reducible rfl))
        try simp only [Act.put, List.setIfInBounds_toArray, List.set_cons_zero, List.set_cons_succ]
        refine lOne 9 (by kernel_rfl) (LFall.op (by kernel_rfl) (fun K hK => ?_))
        have f2 := H4.out.free 2 rfl 2
        have q2 := H4.out.cell 2 rfl 2 rfl
        have H5 := Tre.hid (H4.out.setCell 2 rfl 2 (.slice a4 (k + 1) c4))
        go_simp
        refine hK.out _ _ ?_
        clear hK K hH2
        try simp only [Act.put, List.setIfInBounds_toArray, List.set_cons_zero, List.set_cons_succ]
        refine lDone (by kernel_rfl) ?_
        have H6 := H5.out
        rw [← HTK.out] at H6
        have H7 := Tre.hid (H6.del 0)
        clear H6 q2 f2
        go_wp2_with fail
        go_roundw
        case rel => exact ⟨k + 1, .slice a4 (k + 1) c4, by omega, by go_num, H7.out⟩
        case measure => simp [intOf]; omega
      · have e : k = n.args.length := by omega
        subst e
        rw [List.take_length] at hR
        obtain ⟨y0, y1, y2, y3, y4⟩ := five hR.out 1 rfl
        obtain ⟨t0, t1, t2, t3, t4⟩ := five hR.out 3 rfl
        have f0 := hR.out.free 3 rfl 0
        have f1 := hR.out.free 3 rfl 1
        have f2 := hR.out.free 3 rfl 2
        have f3 := hR.out.free 3 rfl 3
        have f4 := hR.out.free 3 rfl 4
        have M6 := Tre.hid (((((hR.out.setCell 3 rfl 0 (.int .i64 n.kind)).setCell 3 rfl 1 (.string n.name)).setCell 3 rfl 2 (.slice aA n.args.length cA)).setCell 3 rfl 3 (.slice a3 n.labels.length c3)).setCell 3 rfl 4 (.bool n.isOpen))
        obtain ⟨v0, v1, v2, v3, v4⟩ := five M6.out 3 rfl
        go_wp2_with fail
        refine bodyPost_ret (v := .agg #[.int .i64 n.kind, .string n.name, .slice aA n.args.length cA, .slice a3 n.labels.length c3, .bool n.isOpen]) (by simp [results, Try.results34, go_sem, v0, v1, v2, v3, v4]) rfl ⟨_, _, rfl, ?_⟩
        have := (M6.out.del 3).del 3
        have h8 := this.del 1
        rw [List.map_map]
        exact h8
end Go.Proofs.Ytgngnkajjldnlaa.gr
