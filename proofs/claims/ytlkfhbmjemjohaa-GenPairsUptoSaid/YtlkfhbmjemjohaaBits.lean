/- Small words on rows and worlds. -/
import Derived.Test.YtlkfhbmjemjohaaNods
import Derived.Test.YtlkfhbmjemjohaaSpec
namespace Go.Tre
open Go.RowKit
theorem sameB_true {g h : Tre.Graph} (s : SameG g h) : sameB g h = true := by unfold sameB; simp [s]
/-- a row written out -/
theorem row_lit {W : World} {b : Nat} {t : TypeId} {cs : Array Value} (h : W.heap[b]? = some (.cells cs t (0, 0))) (sz n : Nat) (hl : cs.toList.length = n * sz) : Row W sz (some ⟨b, 0, none⟩) n cs.toList :=
  ⟨hl, fun j u hu => ⟨b, 0, rfl, by rw [Nat.zero_add]; simp [World.cell?, h] at hu ⊢; exact hu⟩⟩
theorem row_none (W : World) (sz : Nat) : Row W sz none 0 [] := ⟨by simp, fun j u hu => by simp at hu⟩
theorem lt_len2 {α : Type} {l : List α} {k : Nat} {x : α} (h : l[k]? = some x) : k < l.length := (List.getElem?_eq_some_iff.1 h).1
end Go.Tre
namespace Go.Proofs.Ytlkfhbmjemjohaa.gr
open Go.RowKit Go.Shelf Go.Maps Go.Tre lex
theorem heapSize_alloc (w : World) (o : Obj) : (w.alloc o).heap.size = w.heap.size + 1 := by simp
theorem infoN : (Try.prog.info? 38).map (fun i => (i.zero, i.size, i.bytes)) = some (some (.agg #[.int .i64 0, .string ByteArray.empty, .slice none 0 0, .slice none 0 0, .bool false]), 5, 80) := by kernel_rfl
theorem _root_.Go.Tre.Mem.push2b {w0 w : World} {rs l : List Res} {a b n : Res} (h : Mem w0 w (a :: b :: n :: manyR l :: rs)) : Mem w0 w (n :: manyR (l ++ [a, b]) :: rs) := by
  have h2 : Mem w0 w (manyR l :: a :: b :: n :: rs) := h.front 3 rfl
  have h3 : Mem w0 w (a :: manyR l :: b :: n :: rs) := h2.front 1 rfl
  have h4 : Mem w0 w (b :: manyR (l ++ [a]) :: n :: rs) := h3.into.front 1 rfl
  have h5 : Mem w0 w (n :: manyR ((l ++ [a]) ++ [b]) :: rs) := h4.into.front 1 rfl
  rw [List.append_assoc] at h5
  exact h5
theorem five {w0 w : World} {rs : List Res} {b : Nat} {t : TypeId} {x0 x1 x2 x3 x4 : Value} (h : Mem w0 w rs) (i : Nat) (hi : rs[i]? = some (cellsR b t #[x0, x1, x2, x3, x4])) :
    w.cell? ⟨b, 0, none⟩ = some x0 ∧ w.cell? ⟨b, 1, none⟩ = some x1 ∧ w.cell? ⟨b, 2, none⟩ = some x2 ∧ w.cell? ⟨b, 3, none⟩ = some x3 ∧ w.cell? ⟨b, 4, none⟩ = some x4 :=
  ⟨h.cell i hi 0 rfl, h.cell i hi 1 rfl, h.cell i hi 2 rfl, h.cell i hi 3 rfl, h.cell i hi 4 rfl⟩
theorem nodesR_len {v : Value} {ds : List NodeV} {n : Nat} (h : ds.length = n) : nodesR v ds = rowR 38 5 v n (ds.flatMap NodeV.cells) := by unfold nodesR; rw [h]
end Go.Proofs.Ytlkfhbmjemjohaa.gr
