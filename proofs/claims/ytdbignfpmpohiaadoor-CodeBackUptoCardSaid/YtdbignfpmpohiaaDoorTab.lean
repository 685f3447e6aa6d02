/-
  What the rows' list of variables gives: the two tables lie in memory.
-/
import Derived.Test.YtdbignfpmpohiaaDoorLal
import Derived.ProofKit
import Derived.OpenShut
import Derived.Deep.DeepHandedRow
import Derived.Lib.LaidTab
namespace Go.Proofs.YtdbignfpmpohiaaDoor
open Go.ChangeShapes Go.WideShapes Go.ChangeAt Go.RowKit

theorem parts_whole {α : Type} (k : Nat) (L : Nat → List α) : ∀ (n : Nat) (cs : List α), cs.length = n * k → (∀ i, i < n → (cs.drop (i * k)).take k = L i) → cs = (List.range n).flatMap L := by
  intro n
  induction n with
  | zero => intro cs h _; simp at h; subst h; rfl
  | succ n ih =>
    intro cs h hp
    have e1 : (n + 1) * k = n * k + k := by rw [Nat.add_mul, Nat.one_mul]
    have h1 := ih (cs.take (n * k)) (by rw [List.length_take]; omega) (by
      intro i hi
      rw [← hp i (by omega), List.drop_take, List.take_take]
      congr 1
      have : (i + 1) * k ≤ n * k := Nat.mul_le_mul_right k hi
      rw [Nat.add_mul, Nat.one_mul] at this
      omega)
    have h2 : cs.drop (n * k) = L n := by
      rw [← hp n (by omega), List.take_of_length_le (by rw [List.length_drop]; omega)]
    rw [List.range_succ, List.flatMap_append, ← h1]
    simp only [List.flatMap_cons, List.flatMap_nil, List.append_nil]
    rw [← h2, List.take_append_drop]

section
variable {H : Type} {enc : TypeId × Value → H} {w : World} {base : Nat} {sp : Nat → Bool} {held : Bool} {fuel : Nat} {cs : List Value} {p : List MemPlace}
theorem int_cells {z : Int} (h : DataW.trod enc Tryd.prog w base sp held fuel 3 cs = some (.lit (.int .i64 z), p)) : cs = [.int .i64 z] := by
  obtain ⟨z', hc, hx, _⟩ := DataW.trod_int Tryd.underlying3 h
  simp only [Prod.mk.injEq, DataW.lit.injEq, Lit.int.injEq, true_and] at hx
  rw [hc, hx.1]

theorem ints_array {t : TypeId} {n : Nat} {zs : List Int} (ht : Tryd.prog.underlying t = some (.array n 3)) (hct : Tryd.prog.cellsOf t = n) (h : DataW.trod enc Tryd.prog w base sp held fuel t cs = some (.agg (zs.map fun z => .lit (.int .i64 z)), p)) : cs = zs.map (Value.int .i64) :=
  Lib.cells_of_tab (zs := zs) ht Tryd.underlying3 (by kernel_rfl) hct h
theorem cells3 : Tryd.prog.cellsOf 3 = 1 := by kernel_rfl
theorem cells57 : Tryd.prog.cellsOf 57 = 3 := by kernel_rfl
theorem cells58 : Tryd.prog.cellsOf 58 = 24 := by kernel_rfl
theorem cells59 : Tryd.prog.cellsOf 59 = 4 := by kernel_rfl
theorem cells60 : Tryd.prog.cellsOf 60 = 12 := by kernel_rfl

theorem span_cells {a b c : Int} (h : DataW.trod enc Tryd.prog w base sp held fuel 57 cs = some (.agg [.lit (.int .i64 a), .lit (.int .i64 b), .lit (.int .i64 c)], p)) : cs = [.int .i64 a, .int .i64 b, .int .i64 c] := by
  obtain ⟨xs, n, _, hx, hl, hxl, hf⟩ := DataW.trod_struct Tryd.underlying57 h
  rw [cells57] at hl
  simp only [Prod.mk.injEq, DataW.agg.injEq] at hx
  match xs, hxl with
  | [y0, y1, y2], _ =>
    obtain ⟨d0, q0⟩ := y0
    obtain ⟨d1, q1⟩ := y1
    obtain ⟨d2, q2⟩ := y2
    simp at hx
    obtain ⟨⟨rfl, rfl, rfl⟩, _⟩ := hx
    have h0 : DataW.trod enc Tryd.prog w base sp held n 3 ((cs.drop 0).take (Tryd.prog.cellsOf 3)) = some (.lit (.int .i64 a), q0) := hf 0 _ rfl
    have h1 : DataW.trod enc Tryd.prog w base sp held n 3 ((cs.drop 1).take (Tryd.prog.cellsOf 3)) = some (.lit (.int .i64 b), q1) := hf 1 _ rfl
    have h2 : DataW.trod enc Tryd.prog w base sp held n 3 ((cs.drop 2).take (Tryd.prog.cellsOf 3)) = some (.lit (.int .i64 c), q2) := hf 2 _ rfl
    rw [cells3] at h0 h1 h2
    have e0 := int_cells h0
    have e1 := int_cells h1
    have e2 := int_cells h2
    match cs, hl with
    | [v0, v1, v2], _ =>
      simp at e0 e1 e2
      rw [e0, e1, e2]

theorem spans_cells (h : DataW.trod enc Tryd.prog w base sp held fuel 58 cs = some (Rows.laid_webster_code_spans, p)) : cs = spansA.toList := by
  obtain ⟨xs, n, _, hx, hl, hxl, hf⟩ := DataW.trod_array Tryd.underlying58 h
  rw [cells58] at hl
  unfold Rows.laid_webster_code_spans at hx
  simp only [Prod.mk.injEq, DataW.agg.injEq] at hx
  match xs, hxl with
  | [y0, y1, y2, y3, y4, y5, y6, y7], _ =>
    obtain ⟨d0, q0⟩ := y0
    obtain ⟨d1, q1⟩ := y1
    obtain ⟨d2, q2⟩ := y2
    obtain ⟨d3, q3⟩ := y3
    obtain ⟨d4, q4⟩ := y4
    obtain ⟨d5, q5⟩ := y5
    obtain ⟨d6, q6⟩ := y6
    obtain ⟨d7, q7⟩ := y7
    simp at hx
    obtain ⟨⟨rfl, rfl, rfl, rfl, rfl, rfl, rfl, rfl⟩, _⟩ := hx
    rw [cells57] at hf
    have e0 := span_cells (hf 0 (by omega))
    have e1 := span_cells (hf 1 (by omega))
    have e2 := span_cells (hf 2 (by omega))
    have e3 := span_cells (hf 3 (by omega))
    have e4 := span_cells (hf 4 (by omega))
    have e5 := span_cells (hf 5 (by omega))
    have e6 := span_cells (hf 6 (by omega))
    have e7 := span_cells (hf 7 (by omega))
    match cs, hl with
    | [v0, v1, v2, v3, v4, v5, v6, v7, v8, v9, v10, v11, v12, v13, v14, v15, v16, v17, v18, v19, v20, v21, v22, v23], _ =>
      simp at e0 e1 e2 e3 e4 e5 e6 e7
      simp [spansA, e0, e1, e2, e3, e4, e5, e6, e7]

theorem stores_cells (h : DataW.trod enc Tryd.prog w base sp held fuel 60 cs = some (Rows.laid_webster_code_stores, p)) : cs = storesA.toList := by
  obtain ⟨xs, n, _, hx, hl, hxl, hf⟩ := DataW.trod_array Tryd.underlying60 h
  rw [cells60] at hl
  unfold Rows.laid_webster_code_stores at hx
  simp only [Prod.mk.injEq, DataW.agg.injEq] at hx
  match xs, hxl with
  | [y0, y1, y2], _ =>
    obtain ⟨d0, q0⟩ := y0
    obtain ⟨d1, q1⟩ := y1
    obtain ⟨d2, q2⟩ := y2
    simp at hx
    obtain ⟨⟨rfl, rfl, rfl⟩, _⟩ := hx
    rw [cells59] at hf
    have e0 := ints_array (zs := [1, 2, 3, 4]) Tryd.underlying59 cells59 (hf 0 (by omega))
    have e1 := ints_array (zs := [5, 6, 0, 7]) Tryd.underlying59 cells59 (hf 1 (by omega))
    have e2 := ints_array (zs := [8, 9, 0, 10]) Tryd.underlying59 cells59 (hf 2 (by omega))
    match cs, hl with
    | [v0, v1, v2, v3, v4, v5, v6, v7, v8, v9, v10, v11], _ =>
      simp at e0 e1 e2
      simp [storesA, e0, e1, e2]
end

theorem gSpans : Tryd.prog.globalNamed "webster/code.spans" = some 0 := by kernel_rfl
theorem gStores : Tryd.prog.globalNamed "webster/code.stores" = some 1 := by kernel_rfl
theorem gSpansType : (Tryd.prog.globals[0]?).map (·.type) = some 58 := by kernel_rfl
theorem gStoresType : (Tryd.prog.globals[1]?).map (·.type) = some 60 := by kernel_rfl

theorem heap_of_var {w : World} {name : String} {g : Nat} {cs : Array Value} (hg : Tryd.prog.globalNamed name = some g) (h : w.var? Tryd.prog name = some cs) : ∃ t fr, w.heap[g]? = some (.cells cs t fr) := by
  unfold World.var? at h
  rw [hg] at h
  simp only [Option.bind_some] at h
  split at h
  · rename_i c t fr heq
    injection h with h
    subst h
    exact ⟨t, fr, heq⟩
  · cases h

/-- what the list gives -/
theorem tabs_of {W : World} (h : laidMet Tryd.prog [("webster/code.spans", Rows.laid_webster_code_spans), ("webster/code.stores", Rows.laid_webster_code_stores)] W) : Tabs W := by
  obtain ⟨ps, ⟨g, t, cs, fuel, p, q, hg, ht, hvar, hd, ⟨g2, t2, cs2, fuel2, p2, q2, hg2, ht2, hvar2, hd2, _, _⟩, _⟩, _⟩ := h
  obtain rfl := Option.some.inj (gSpans.symm.trans hg)
  obtain rfl := Option.some.inj (gSpansType.symm.trans ht)
  obtain rfl := Option.some.inj (gStores.symm.trans hg2)
  obtain rfl := Option.some.inj (gStoresType.symm.trans ht2)
  have e1 : cs = spansA := Array.toList_inj.1 (spans_cells hd)
  have e2 : cs2 = storesA := Array.toList_inj.1 (stores_cells hd2)
  subst e1 e2
  exact ⟨heap_of_var gSpans hvar, heap_of_var gStores hvar2⟩
end Go.Proofs.YtdbignfpmpohiaaDoor
