/-
  Opening the arguments: bytes, things to do; what the bound of an 'upto' row gives.
-/
import Derived.Test.YtdbignfpmpohiaaDoorTab
import Derived.Test.YtdbignfpmpohiaaDoorFld
namespace Go.Proofs.YtdbignfpmpohiaaDoor
open Go.ChangeShapes Go.WideShapes Go.ChangeAt Go.RowKit

theorem own : ownKnob Tryd.prog.godebug = none := by kernel_rfl
theorem laidOut : laidOutB Tryd.prog = true := by kernel_rfl

def fillWith (a : Array Value) : Obj → Obj
  | .cells _ t frozen => .cells a t frozen
  | o => o
/-- a world for the witness: the settled one, the two tables holding what their initialisers lay -/
noncomputable def laidWorld (os : Os) : World :=
  { World.holding Tryd.prog os ⟨#[], #[], []⟩ with heap := ((World.holding Tryd.prog os ⟨#[], #[], []⟩).heap.modify 0 (fillWith spansA)).modify 1 (fillWith storesA) }

theorem spot_of {w : World} {a : Addr} {v : Value} (h : w.cell? a = some v) : a.spot = none := by
  unfold World.cell? at h
  split at h
  · split at h
    · cases h
    · rename_i hs; simpa using hs
  · cases h

theorem bulk_one {H : Type} (d : DataW H) : 1 ≤ Rows.uptoBulk d := by
  cases d with
  | lit l => cases l <;> simp [Rows.uptoBulk]
  | nil => simp [Rows.uptoBulk]
  | ptr d => simp [Rows.uptoBulk]
  | slice elems spare => simp [Rows.uptoBulk]
  | agg parts => simp [Rows.uptoBulk]
  | iface t d => simp [Rows.uptoBulk]
  | map entries => simp [Rows.uptoBulk]
  | held h => simp [Rows.uptoBulk]
theorem bulk_length {H : Type} (l : List (DataW H)) : l.length ≤ Rows.uptoBulkAll l := by
  induction l with
  | nil => simp [Rows.uptoBulkAll]
  | cons x r ih => have := bulk_one x; simp only [Rows.uptoBulkAll, List.length_cons]; omega
theorem bulk_bound {H : Type} {l : List (DataW H)} (hk : Rows.uptoSmall H l = true) : Rows.uptoBulkAll l ≤ 1048576 := of_decide_eq_true hk

section
variable {H : Type} {enc : TypeId × Value → H} {W : World} {fuel : Nat} {A : Option Addr} {len cap : Nat} {x : DataW H × List MemPlace}
theorem byts_of (h : DataW.trod enc Tryd.prog W 0 (fun _ => true) true fuel 22 (Value.cells (.slice A len cap)).toList = some x) :
    ∃ bs : List Int, bs.length = len ∧ len ≤ cap ∧ cap ≤ 9223372036854775807 ∧ Byts W A bs ∧ bs.length ≤ Rows.uptoBulk x.1 := by
  rcases open_ints Tryd.underlying22 Tryd.underlying5 (by kernel_rfl) h with ⟨hcs, hx⟩ | ⟨a, l, c, zs, hcs, _, hl, hm, hz, hx, hcell, hwz⟩
  · simp [Value.cells] at hcs
    obtain ⟨rfl, rfl, rfl⟩ := hcs
    exact ⟨[], rfl, by omega, by omega, fun j v hj => by simp at hj, by simp⟩
  · simp [Value.cells] at hcs
    obtain ⟨rfl, rfl, rfl⟩ := hcs
    unfold maxLen at hm
    simp only [if_true] at hz
    refine ⟨zs.take len, by rw [List.length_take]; omega, hl, hm, ?_, ?_⟩
    · intro j v hj
      have hjl : j < len := by
        have := (List.getElem?_eq_some_iff.1 hj).1
        rw [List.length_take] at this
        omega
      rw [List.getElem?_take, if_pos hjl] at hj
      have hc := hcell j (by omega)
      have hv := hwz v (List.mem_of_getElem? hj)
      have hd : zs.getD j 0 = v := by rw [List.getD_eq_getElem?_getD, hj]; rfl
      rw [hd] at hc
      have hb : 0 ≤ v ∧ v ≤ 255 := by simpa [Lit.wf, IntKind.min, IntKind.max, IntKind.signed, IntKind.bits] using hv
      have hsp : a.spot = none := by
        have h0 := spot_of (hcell 0 (by omega))
        simpa [Addr.add] using h0
      obtain ⟨b, off, sp⟩ := a
      simp only at hsp
      subst hsp
      have hadd : (⟨b, off, none⟩ : Addr).add j = ⟨b, off + j, none⟩ := by unfold Addr.add; split <;> simp_all
      rw [hadd] at hc
      exact ⟨hb.1, hb.2, b, off, rfl, World.block_lt_of_cell? W _ hc, hc⟩
    · rw [hx]
      simp only [Rows.uptoBulk]
      have := bulk_length (H := H) (lits .u8 (zs.take len))
      simp only [lits, List.length_map] at this ⊢
      omega

theorem ops_of (h : DataW.trod enc Tryd.prog W 0 (fun _ => true) true fuel 31 (Value.cells (.slice A len cap)).toList = some x) :
    ∃ l : List O4, l.length = len ∧ len ≤ cap ∧ cap ≤ 9223372036854775807 ∧ OpsR W A l := by
  have h' : DataW.trod enc Tryd.prog W 0 (fun _ => true) true fuel 31 [.slice A len cap] = some x := by simpa [Value.cells] using h
  rcases open_slice_fields Tryd.underlying31 Tryd.underlying25 (by kernel_rfl) (by kernel_rfl) h' with ⟨hcs, _⟩ | ⟨a, l, c, m, D, Pl, hcs, _, hl, hm, hmm, _, hf⟩
  · simp at hcs
    obtain ⟨rfl, rfl, rfl⟩ := hcs
    exact ⟨[], rfl, by omega, by omega, fun j v hj => by simp at hj⟩
  · simp at hcs
    obtain ⟨rfl, rfl, rfl⟩ := hcs
    unfold maxLen at hm
    simp only [if_true] at hmm
    have key : ∀ j, j < len → ∃ o : O4, ∃ b off, a = ⟨b, off, none⟩ ∧ b < W.heap.size ∧ W.cell? ⟨b, off + j * 4, none⟩ = some (.int .i64 o.k) ∧ W.cell? ⟨b, off + j * 4 + 1, none⟩ = some (.int .i64 o.n) ∧
        W.cell? ⟨b, off + j * 4 + 2, none⟩ = some (.int .i64 o.m) ∧ W.cell? ⟨b, off + j * 4 + 3, none⟩ = some (.int .i64 o.l) := by
      intro j hj
      obtain ⟨ys, n, _, _, _, hfj⟩ := hf j (by omega)
      obtain ⟨v0, y0, hc0, hy0, ht0⟩ := hfj 0 _ rfl
      obtain ⟨v1, y1, hc1, hy1, ht1⟩ := hfj 1 _ rfl
      obtain ⟨v2, y2, hc2, hy2, ht2⟩ := hfj 2 _ rfl
      obtain ⟨v3, y3, hc3, hy3, ht3⟩ := hfj 3 _ rfl
      obtain ⟨z0, e0, _, _⟩ := DataW.trod_int Tryd.underlying3 ht0
      obtain ⟨z1, e1, _, _⟩ := DataW.trod_int Tryd.underlying3 ht1
      obtain ⟨z2, e2, _, _⟩ := DataW.trod_int Tryd.underlying3 ht2
      obtain ⟨z3, e3, _, _⟩ := DataW.trod_int Tryd.underlying3 ht3
      simp at e0 e1 e2 e3
      subst e0 e1 e2 e3
      have hsp : a.spot = none := by
        obtain ⟨_, _, _, _, _, hf0⟩ := hf 0 (by omega)
        obtain ⟨_, _, hc00, _, _⟩ := hf0 0 _ rfl
        have h0 := spot_of hc00
        simpa [Addr.add] using h0
      obtain ⟨b, off, sp⟩ := a
      simp only at hsp
      subst hsp
      have hadd : ∀ q, (⟨b, off, none⟩ : Addr).add q = ⟨b, off + q, none⟩ := by intro q; unfold Addr.add; split <;> simp_all
      rw [hadd] at hc0 hc1 hc2 hc3
      simp only [List.size_toArray, List.length_cons, List.length_nil, Nat.zero_add] at hc0 hc1 hc2 hc3
      exact ⟨⟨z0, z1, z2, z3⟩, b, off, rfl, World.block_lt_of_cell? W _ hc0, by simpa using hc0, by simpa [Nat.add_assoc] using hc1, by simpa [Nat.add_assoc] using hc2, by simpa [Nat.add_assoc] using hc3⟩
    have build : ∀ q, q ≤ len → ∃ l : List O4, l.length = q ∧ OpsR W (some a) l := by
      intro q
      induction q with
      | zero => intro _; exact ⟨[], rfl, fun j v hj => by simp at hj⟩
      | succ q ih =>
        intro hq
        obtain ⟨l, hl1, hl2⟩ := ih (by omega)
        obtain ⟨o, b, off, ha, hb, c0, c1, c2, c3⟩ := key q (by omega)
        refine ⟨l ++ [o], by simp [hl1], ?_⟩
        intro j o' hj
        by_cases hjq : j < l.length
        · rw [List.getElem?_append_left hjq] at hj
          exact hl2 j o' hj
        · have hjl := (List.getElem?_eq_some_iff.1 hj).1
          have hjq' : j = q := by simp at hjl; omega
          subst hjq'
          rw [List.getElem?_append_right (by omega), hl1, Nat.sub_self] at hj
          simp at hj
          subst hj
          exact ⟨b, off, by rw [ha], hb, c0, c1, c2, c3⟩
    obtain ⟨l, hl1, hl2⟩ := build len (Nat.le_refl _)
    exact ⟨l, hl1, hl, hm, hl2⟩
end
end Go.Proofs.YtdbignfpmpohiaaDoor
