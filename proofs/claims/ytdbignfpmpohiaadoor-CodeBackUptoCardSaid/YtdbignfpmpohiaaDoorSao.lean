/-
  The contract of websterref12.Same, of equal things to do.
-/
import Derived.Test.YtdbignfpmpohiaaDoorSam
import Derived.Deep.QuietTactic
import Derived.BigQuiet
namespace Go.Proofs.YtdbignfpmpohiaaDoor
open Go.RowKit

/-- things to do that lie at an address -/
def OpsR (w : World) (A : Option Addr) (l : List O4) : Prop :=
  ∀ j o, l[j]? = some o → ∃ b off, A = some ⟨b, off, none⟩ ∧ b < w.heap.size ∧ w.cell? ⟨b, off + j * 4, none⟩ = some (.int .i64 o.k) ∧ w.cell? ⟨b, off + j * 4 + 1, none⟩ = some (.int .i64 o.n) ∧
    w.cell? ⟨b, off + j * 4 + 2, none⟩ = some (.int .i64 o.m) ∧ w.cell? ⟨b, off + j * 4 + 3, none⟩ = some (.int .i64 o.l)

theorem OpsR.below {w w' : World} {A : Option Addr} {l : List O4} (h : OpsR w A l) (hb : Below w.heap.size w w') : OpsR w' A l := by
  intro j o ho
  obtain ⟨b, off, hA, hl, h0, h1, h2, h3⟩ := h j o ho
  exact ⟨b, off, hA, Nat.lt_of_lt_of_le hl hb.size, (hb.cell (p := ⟨b, off + j * 4, none⟩) hl).trans h0, (hb.cell (p := ⟨b, off + j * 4 + 1, none⟩) hl).trans h1, (hb.cell (p := ⟨b, off + j * 4 + 2, none⟩) hl).trans h2, (hb.cell (p := ⟨b, off + j * 4 + 3, none⟩) hl).trans h3⟩

/-- what is owned can be read -/
theorem Owns.reads {w : World} {B : Nat} {v : Value} {l : List O4} (h : Owns w B v l) : ∃ A cap, v = .slice A l.length cap ∧ l.length ≤ cap ∧ cap ≤ 9223372036854775807 ∧ OpsR w A l := by
  rcases h.2 with ⟨rfl, h0⟩ | ⟨g, cap, cur, rfl, hg, hh, h1, h2, h3, h4⟩
  · have : l = [] := List.eq_nil_of_length_eq_zero h0
    subst this
    exact ⟨none, 0, rfl, by simp, by omega, fun j o ho => by simp at ho⟩
  · unfold maxLen at h2
    refine ⟨_, cap, rfl, h1, h2, fun j o ho => ?_⟩
    have hj := (List.getElem?_eq_some_iff.1 ho).1
    obtain ⟨c0, c1, c2, c3⟩ := opCells_get l j o ho
    have key : ∀ i, i < l.length * 4 → w.cell? ⟨g, i, none⟩ = (opCells l)[i]? := by
      intro i hi
      rw [cell_of_row w g i cur 25 (0, 0) hh, ← h4, List.getElem?_take, if_pos hi]
      simp
    have hlt : g < w.heap.size := (Array.getElem?_eq_some_iff.1 hh).1
    exact ⟨g, 0, rfl, hlt, by rw [key _ (by omega)]; simpa using c0, by rw [key _ (by omega)]; simpa using c1, by rw [key _ (by omega)]; simpa using c2, by rw [key _ (by omega)]; simpa using c3⟩

set_option maxHeartbeats 2000000 in
theorem same_ops (w : World) (A A' : Option Addr) (l : List O4) (cap cap' : Nat) (hl : l.length ≤ 9223372036854775807) (hA : OpsR w A l) (hA' : OpsR w A' l) :
    Calls Tryd.prog 16 #[.slice A l.length cap, .slice A' l.length cap'] w fun e w' => e = .returned (.bool true) ∧ Below w.heap.size w w' := by
  have H1 := Lib.hid hA
  have H2 := Lib.hid hA'
  obtain ⟨n, hn⟩ : ∃ n, n = l.length := ⟨_, rfl⟩
  have HN := Lib.hid hn
  rw [← hn] at hl
  rw [← hn]
  clear hA hA' hn
  go_enter Tryd.func16, Tryd.ntmps16
  go_wp2
  go_loopg [5] n (fun g s5 wr => ∃ j : Nat, j + g = n ∧ s5 = .int .i64 j ∧ Below w.heap.size w wr)
  case atStart => exact ⟨0, by omega, rfl, Below.refl _ _⟩
  case round =>
    obtain ⟨j, hj, rfl, hb⟩ := hrel
    cases gk with
    | zero =>
      have hjn : ¬ ((j : Int) < n) := by omega
      go_wp2
      go_ret
      exact ⟨rfl, hb⟩
    | succ g =>
      have hjn : ((j : Int) < n) := by omega
      obtain ⟨o, ho⟩ : ∃ o, l[j]? = some o := ⟨_, List.getElem?_eq_getElem (by have := HN.out; omega)⟩
      obtain ⟨b, off, rfl, _, c0, c1, c2, c3⟩ := (H1.out.below hb) j o ho
      obtain ⟨b', off', rfl, _, d0, d1, d2, d3⟩ := (H2.out.below hb) j o ho
      clear ho
      go_wp2_with fail
      go_quiet (fail)
      go_wp2
      go_roundg g
      case measure => omega
      case rel => exact ⟨j + 1, by omega, by go_num, ⟨hb.os, hb.tape, hb.output, hb.size, hb.block⟩⟩
end Go.Proofs.YtdbignfpmpohiaaDoor
