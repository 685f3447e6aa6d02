/-
  The words for what bytes tell, and the contracts of code.constant, code.one, code.more.
-/
import Derived.Test.YtdbignfpmpohiaaDoorRows
import Derived.WalkKit
import Derived.WalkSpells
import Derived.WalkLawsBesides
import Derived.Deep.Draws
import Derived.Deep.LoopGhost
import Derived.Laws.Rows
import Derived.Lib.Hide
namespace Go.Proofs.YtdbignfpmpohiaaDoor
open Go.RowKit

/-- block g is just the cells cs of element type t, none frozen -/
def Blk (w : World) (g : Nat) (t : TypeId) (cs : Array Value) : Prop := w.heap[g]? = some (.cells cs t (0, 0))

section
variable {w w' : World} {g : Nat} {t : TypeId} {cs : Array Value}
theorem Blk.lt (h : Blk w g t cs) : g < w.heap.size := by
  rcases Nat.lt_or_ge g w.heap.size with hlt | hge
  · exact hlt
  · unfold Blk at h; rw [Array.getElem?_eq_none hge] at h; cases h
theorem Blk.cell (h : Blk w g t cs) (i : Nat) : w.cell? ⟨g, i, none⟩ = cs[i]? := cell_of_row w g i cs t (0, 0) h
theorem Blk.frozen (h : Blk w g t cs) (i : Nat) : w.frozen? ⟨g, i, none⟩ = false := by
  unfold Blk at h
  simp [World.frozen?, h]
theorem Blk.new (w : World) (t : TypeId) (cs : Array Value) : Blk (w.alloc (.cells cs t)) w.heap.size t cs := heap_alloc_new w _
theorem Blk.drew (h : Blk w g t cs) : Blk w.drew g t cs := h
theorem Blk.drewN (h : Blk w g t cs) (n : Nat) : Blk (w.drewN n) g t cs := h
theorem Blk.alloc (h : Blk w g t cs) (o : Obj) : Blk (w.alloc o) g t cs := (Below.heap_alloc w o g h.lt).trans h
theorem Blk.set_ (h : Blk w g t cs) (i : Nat) (u : Value) : Blk (w.setCell ⟨g, i, none⟩ u) g t (cs.setIfInBounds i u) := by
  unfold Blk at h ⊢
  simp [World.setCell, Array.getElem?_modify, h]
theorem Blk.far (h : Blk w g t cs) {p : Addr} (hp : g ≠ p.block) (u : Value) : Blk (w.setCell p u) g t cs := (Below.heap_setCell w p u g hp).trans h
end

/-- something to do: kind, two numbers, how many bytes -/
structure O4 where
  k : Int
  n : Int
  m : Int
  l : Int
deriving DecidableEq

def spansA : Array Value := #[.int .i64 0, .int .i64 15, .int .i64 1, .int .i64 16, .int .i64 31, .int .i64 2, .int .i64 32, .int .i64 63, .int .i64 3, .int .i64 64, .int .i64 95, .int .i64 4, .int .i64 96, .int .i64 103, .int .i64 8, .int .i64 104, .int .i64 111, .int .i64 9, .int .i64 176, .int .i64 191, .int .i64 25, .int .i64 192, .int .i64 207, .int .i64 26]
def storesA : Array Value := #[.int .i64 1, .int .i64 2, .int .i64 3, .int .i64 4, .int .i64 5, .int .i64 6, .int .i64 0, .int .i64 7, .int .i64 8, .int .i64 9, .int .i64 0, .int .i64 10]

/-- the two tables are there -/
def Tabs (w : World) : Prop := (∃ t fr, w.heap[0]? = some (.cells spansA t fr)) ∧ ∃ t fr, w.heap[1]? = some (.cells storesA t fr)

theorem Tabs.lt {w : World} (h : Tabs w) : 1 < w.heap.size := by
  obtain ⟨_, t, fr, h1⟩ := h
  exact (Array.getElem?_eq_some_iff.1 h1).1
theorem Tabs.below {B : Nat} {w w' : World} (h : Tabs w) (hb : Below B w w') (hB : 1 < B) : Tabs w' := by
  obtain ⟨⟨t, fr, h0⟩, t', fr', h1⟩ := h
  exact ⟨⟨t, fr, (hb.block 0 (by omega)).trans h0⟩, t', fr', (hb.block 1 hB).trans h1⟩
theorem Tabs.keep {w w' : World} (h : Tabs w) (hb : Below w.heap.size w w') : Tabs w' := h.below hb h.lt
theorem Tabs.alloc {w : World} (h : Tabs w) (o : Obj) : Tabs (w.alloc o) := h.keep ((Below.refl _ w).alloc (Nat.le_refl _) o)
theorem Tabs.setCell {w : World} (h : Tabs w) {a : Addr} (ha : 1 < a.block) (v : Value) : Tabs (w.setCell a v) := h.below ((Below.refl 2 w).setCell (by omega) v) (by omega)
theorem Tabs.drewN {w : World} (h : Tabs w) (n : Nat) : Tabs (w.drewN n) := h
theorem Tabs.drew {w : World} (h : Tabs w) : Tabs w.drew := h
theorem Tabs.store {w : World} (h : Tabs w) (i : Nat) (v : Value) (hv : storesA[i]? = some v) : w.cell? ⟨1, i, none⟩ = some v := by
  obtain ⟨_, t, fr, h1⟩ := h
  exact (cell_of_row w 1 i storesA t fr h1).trans hv

theorem below_drewN {B : Nat} {a w : World} (h : Below B a w) (n : Nat) : Below B a (w.drewN n) := ⟨h.os, h.tape, h.output, h.size, h.block⟩

/-- what is pushed, or told, by itself -/
def constM (k : Int) : Int := if k = 1 then 4 else if k = 2 then 6 else if k = 3 then 2 else 2 * (k - 5) + 1

set_option maxHeartbeats 400000 in
theorem const_any (k : Int) (w : World) (h : 1 ≤ k ∧ k ≤ 7) :
    Calls Tryd.prog 29 #[.int .i64 k] w fun e w' => e = .returned (.int .i64 (constM k)) ∧ w = w' := by
  by_cases h1 : k = 1
  · subst h1
    go_enter Tryd.func29, Tryd.ntmps29
    go_wp2
    go_ret
    exact ⟨rfl, rfl⟩
  by_cases h2 : k = 2
  · subst h2
    go_enter Tryd.func29, Tryd.ntmps29
    go_wp2
    go_ret
    exact ⟨rfl, rfl⟩
  by_cases h3 : k = 3
  · subst h3
    go_enter Tryd.func29, Tryd.ntmps29
    go_wp2
    go_ret
    exact ⟨rfl, rfl⟩
  have e : constM k = 2 * (k - 5) + 1 := by simp [constM, h1, h2, h3]
  have H := Lib.hid e
  clear e
  go_enter Tryd.func29, Tryd.ntmps29
  go_wp2
  go_ret
  exact ⟨by rw [H.out]; rfl, rfl⟩

/-- by one byte; false: it tells none by itself -/
def oneM (c : Int) : O4 × Bool :=
  if c ≤ 15 then (⟨1, c, 0, 1⟩, true)
  else if c ≤ 31 then (⟨2, c - 16, 0, 1⟩, true)
  else if c ≤ 63 then (⟨3, c - 32, 0, 1⟩, true)
  else if c ≤ 95 then (⟨4, c - 64, 0, 1⟩, true)
  else if c ≤ 103 then (⟨8, c - 96, 0, 1⟩, true)
  else if c ≤ 111 then (⟨9, c - 104, 0, 1⟩, true)
  else if 176 ≤ c ∧ c ≤ 191 then (⟨25, c - 176, 0, 1⟩, true)
  else if 192 ≤ c ∧ c ≤ 207 then (⟨26, c - 192, 0, 1⟩, true)
  else if c = 112 then (⟨11, 0, 0, 1⟩, true)
  else if c < 120 then (⟨12, constM (c - 112), 0, 1⟩, true)
  else if c = 120 then (⟨13, 0, 0, 1⟩, true)
  else if c < 124 then (⟨14, constM (c - 120), 0, 1⟩, true)
  else if c ≤ 125 then (⟨15 + c - 124, 0, 0, 1⟩, true)
  else if 135 ≤ c ∧ c ≤ 137 then (⟨19 + c - 135, 0, 0, 1⟩, true)
  else if 144 ≤ c ∧ c < 152 then (⟨22, c - 143, 0, 1⟩, true)
  else if 152 ≤ c ∧ c < 160 then (⟨24, c - 151, 0, 1⟩, true)
  else if 208 ≤ c then (⟨17, c % 16, (c - 208) / 16, 1⟩, true)
  else (⟨0, 0, 0, 1⟩, decide (c < 128 ∨ 175 < c ∨ (138 ≤ c ∧ c < 144)))

/-- what a function leaves that returns something to do, and a bool -/
def Ret2 (r : O4 × Bool) (w : World) (e : Ending) (w' : World) : Prop :=
  e = .returned (.tuple #[.agg #[.int .i64 r.1.k, .int .i64 r.1.n, .int .i64 r.1.m, .int .i64 r.1.l], .bool r.2]) ∧ Below w.heap.size w w'
end Go.Proofs.YtdbignfpmpohiaaDoor
