/-
  The words for a clock in memory, and the contracts of the small functions of package clock (at, open).
-/
import Derived.Test.YtpekigmkmeapaaaRows
import Derived.WalkKit
import Derived.WalkSpells
import Derived.WalkLawsBesides
import Derived.Deep.Draws
import Derived.Laws.Rows
import Derived.Lib.Hide
namespace Go.Proofs.Ytpekigmkmeapaaa
open Go.RowKit

/-- block g is just the cells cs of element type t, none frozen -/
def Blk (w : World) (g : Nat) (t : TypeId) (cs : Array Value) : Prop := w.heap[g]? = some (.cells cs t (0, 0))

section
variable {w w' : World} {g : Nat} {t : TypeId} {cs : Array Value}
theorem Blk.lt (h : Blk w g t cs) : g < w.heap.size := by
  rcases Nat.lt_or_ge g w.heap.size with hlt | hge
  · exact hlt
  · unfold Blk at h; rw [Array.getElem?_eq_none hge] at h; cases h
theorem Blk.cell (h : Blk w g t cs) (i : Nat) : w.cell? ⟨g, i, none⟩ = cs[i]? := cell_of_row w g i cs t (0, 0) h
theorem Blk.frozen (h : Blk w g t cs) (i : Nat) : w.frozen? ⟨g, i, none⟩ = false := by
  unfold Blk at h
  simp [World.frozen?, h]
theorem Blk.new (w : World) (t : TypeId) (cs : Array Value) : Blk (w.alloc (.cells cs t)) w.heap.size t cs := heap_alloc_new w _
theorem Blk.drew (h : Blk w g t cs) : Blk w.drew g t cs := h
theorem Blk.drewN (h : Blk w g t cs) (n : Nat) : Blk (w.drewN n) g t cs := h
theorem Blk.alloc (h : Blk w g t cs) (o : Obj) : Blk (w.alloc o) g t cs := (Below.heap_alloc w o g h.lt).trans h
theorem Blk.set_ (h : Blk w g t cs) (i : Nat) (u : Value) : Blk (w.setCell ⟨g, i, none⟩ u) g t (cs.setIfInBounds i u) := by
  unfold Blk at h ⊢
  simp [World.setCell, Array.getElem?_modify, h]
theorem Blk.far (h : Blk w g t cs) {p : Addr} (hp : g ≠ p.block) (u : Value) : Blk (w.setCell p u) g t cs := (Below.heap_setCell w p u g hp).trans h
end

/-- a place: in, touched, pinned -/
structure Pl where
  i : Bool
  t : Bool
  p : Bool
deriving DecidableEq

def Pl.cells (x : Pl) : List Value := [.bool x.i, .bool x.t, .bool x.p]
def cellsOf (L : List Pl) : List Value := L.flatMap Pl.cells

theorem cellsOf_cons (x : Pl) (L : List Pl) : cellsOf (x :: L) = .bool x.i :: .bool x.t :: .bool x.p :: cellsOf L := rfl
theorem cellsOf_length (L : List Pl) : (cellsOf L).length = 3 * L.length := by
  induction L with
  | nil => rfl
  | cons x L ih => simp only [cellsOf_cons, List.length_cons, ih]; omega

theorem cellsOf_get (L : List Pl) (i : Nat) (x : Pl) (h : L[i]? = some x) :
    (cellsOf L)[i * 3]? = some (.bool x.i) ∧ (cellsOf L)[i * 3 + 1]? = some (.bool x.t) ∧ (cellsOf L)[i * 3 + 2]? = some (.bool x.p) := by
  induction L generalizing i with
  | nil => simp at h
  | cons y L ih =>
    cases i with
    | zero => simp at h; subst h; simp [cellsOf_cons]
    | succ i =>
      simp at h
      have := ih i h
      rw [cellsOf_cons]
      have e : (i + 1) * 3 = i * 3 + 1 + 1 + 1 := by omega
      rw [e]
      simpa using this

theorem cellsOf_set (L : List Pl) (i : Nat) (y : Pl) (h : i < L.length) :
    (((cellsOf L).set (i * 3) (.bool y.i)).set (i * 3 + 1) (.bool y.t)).set (i * 3 + 2) (.bool y.p) = cellsOf (L.set i y) := by
  induction L generalizing i with
  | nil => simp at h
  | cons x L ih =>
    cases i with
    | zero => simp [cellsOf_cons]
    | succ i =>
      have e : (i + 1) * 3 = i * 3 + 1 + 1 + 1 := by omega
      rw [cellsOf_cons, e]
      simp only [List.set_cons_succ, cellsOf_cons]
      rw [ih i (by simpa using h)]

theorem cellsOf_set_t (L : List Pl) (i : Nat) (x : Pl) (b : Bool) (h : L[i]? = some x) :
    (cellsOf L).set (i * 3 + 1) (.bool b) = cellsOf (L.set i { x with t := b }) := by
  induction L generalizing i with
  | nil => simp at h
  | cons y L ih =>
    cases i with
    | zero => simp at h; subst h; simp [cellsOf_cons]
    | succ i =>
      have e : (i + 1) * 3 + 1 = i * 3 + 1 + 1 + 1 + 1 := by omega
      rw [cellsOf_cons, e]
      simp only [List.set_cons_succ, cellsOf_cons]
      rw [ih i (by simpa using h)]

theorem cellsOf_set_p (L : List Pl) (i : Nat) (x : Pl) (b : Bool) (h : L[i]? = some x) :
    (cellsOf L).set (i * 3 + 2) (.bool b) = cellsOf (L.set i { x with p := b }) := by
  induction L generalizing i with
  | nil => simp at h
  | cons y L ih =>
    cases i with
    | zero => simp at h; subst h; simp [cellsOf_cons]
    | succ i =>
      have e : (i + 1) * 3 + 2 = i * 3 + 2 + 1 + 1 + 1 := by omega
      rw [cellsOf_cons, e]
      simp only [List.set_cons_succ, cellsOf_cons]
      rw [ih i (by simpa using h)]

/-- a clock at block c, its places at block lb: the places L, the hand h -/
structure Clk (w : World) (c lb : Nat) (L : List Pl) (h : Nat) : Prop where
  head : Blk w c 51 #[.slice (some ⟨lb, 0, none⟩) L.length L.length, .int .i64 h]
  body : Blk w lb 58 (cellsOf L).toArray
  size : L.length ≤ 16384

section
variable {w w' : World} {c lb : Nat} {L : List Pl} {h : Nat}
theorem Clk.ne (k : Clk w c lb L h) : c ≠ lb := by
  rintro rfl
  have h1 := k.head
  have h2 := k.body
  unfold Blk at h1 h2
  rw [h1] at h2
  injection h2 with h2
  injection h2 with _ ht
  exact absurd ht (by decide)
theorem Clk.c0 (k : Clk w c lb L h) : w.cell? ⟨c, 0, none⟩ = some (.slice (some ⟨lb, 0, none⟩) L.length L.length) := (k.head.cell 0).trans (by simp)
theorem Clk.c1 (k : Clk w c lb L h) : w.cell? ⟨c, 1, none⟩ = some (.int .i64 h) := (k.head.cell 1).trans (by simp)
theorem Clk.cf (k : Clk w c lb L h) (i : Nat) : w.frozen? ⟨c, i, none⟩ = false := k.head.frozen i
theorem Clk.bf (k : Clk w c lb L h) (i : Nat) : w.frozen? ⟨lb, i, none⟩ = false := k.body.frozen i
theorem Clk.bi (k : Clk w c lb L h) {i : Nat} {x : Pl} (hx : L[i]? = some x) : w.cell? ⟨lb, i * 3, none⟩ = some (.bool x.i) := (k.body.cell _).trans (by simpa using (cellsOf_get L i x hx).1)
theorem Clk.bt (k : Clk w c lb L h) {i : Nat} {x : Pl} (hx : L[i]? = some x) : w.cell? ⟨lb, i * 3 + 1, none⟩ = some (.bool x.t) := (k.body.cell _).trans (by simpa using (cellsOf_get L i x hx).2.1)
theorem Clk.bp (k : Clk w c lb L h) {i : Nat} {x : Pl} (hx : L[i]? = some x) : w.cell? ⟨lb, i * 3 + 2, none⟩ = some (.bool x.p) := (k.body.cell _).trans (by simpa using (cellsOf_get L i x hx).2.2)
theorem Clk.drew (k : Clk w c lb L h) : Clk w.drew c lb L h := ⟨k.head.drew, k.body.drew, k.size⟩
theorem Clk.drewN (k : Clk w c lb L h) (n : Nat) : Clk (w.drewN n) c lb L h := ⟨k.head.drewN n, k.body.drewN n, k.size⟩
theorem Clk.alloc (k : Clk w c lb L h) (o : Obj) : Clk (w.alloc o) c lb L h := ⟨k.head.alloc o, k.body.alloc o, k.size⟩
theorem Clk.far (k : Clk w c lb L h) {p : Addr} (h1 : c ≠ p.block) (h2 : lb ≠ p.block) (u : Value) : Clk (w.setCell p u) c lb L h := ⟨k.head.far h1 u, k.body.far h2 u, k.size⟩
theorem Clk.hand (k : Clk w c lb L h) (j : Nat) : Clk (w.setCell ⟨c, 1, none⟩ (.int .i64 j)) c lb L j :=
  ⟨by simpa using k.head.set_ 1 (.int .i64 j), k.body.far (Ne.symm k.ne) _, k.size⟩
theorem Clk.setT (k : Clk w c lb L h) {i : Nat} {x : Pl} (hx : L[i]? = some x) (b : Bool) : Clk (w.setCell ⟨lb, i * 3 + 1, none⟩ (.bool b)) c lb (L.set i { x with t := b }) h := by
  refine ⟨?_, ?_, by simpa using k.size⟩
  · simpa using k.head.far (p := ⟨lb, i * 3 + 1, none⟩) k.ne (.bool b)
  · have := k.body.set_ (i * 3 + 1) (.bool b)
    rw [List.setIfInBounds_toArray, cellsOf_set_t L i x b hx] at this
    exact this
theorem Clk.setP (k : Clk w c lb L h) {i : Nat} {x : Pl} (hx : L[i]? = some x) (b : Bool) : Clk (w.setCell ⟨lb, i * 3 + 2, none⟩ (.bool b)) c lb (L.set i { x with p := b }) h := by
  refine ⟨?_, ?_, by simpa using k.size⟩
  · simpa using k.head.far (p := ⟨lb, i * 3 + 2, none⟩) k.ne (.bool b)
  · have := k.body.set_ (i * 3 + 2) (.bool b)
    rw [List.setIfInBounds_toArray, cellsOf_set_p L i x b hx] at this
    exact this
theorem Clk.setAll (k : Clk w c lb L h) {i : Nat} (hi : i < L.length) (y : Pl) :
    Clk (((w.setCell ⟨lb, i * 3, none⟩ (.bool y.i)).setCell ⟨lb, i * 3 + 1, none⟩ (.bool y.t)).setCell ⟨lb, i * 3 + 2, none⟩ (.bool y.p)) c lb (L.set i y) h := by
  refine ⟨?_, ?_, by simpa using k.size⟩
  · simpa using ((k.head.far (p := ⟨lb, i * 3, none⟩) k.ne (.bool y.i)).far (p := ⟨lb, i * 3 + 1, none⟩) k.ne (.bool y.t)).far (p := ⟨lb, i * 3 + 2, none⟩) k.ne (.bool y.p)
  · have := ((k.body.set_ (i * 3) (.bool y.i)).set_ (i * 3 + 1) (.bool y.t)).set_ (i * 3 + 2) (.bool y.p)
    rw [List.setIfInBounds_toArray, List.setIfInBounds_toArray, List.setIfInBounds_toArray, cellsOf_set L i y hi] at this
    exact this
end

/-- only the clock's two blocks, and what is new, may have turned -/
structure Only (c lb : Nat) (w w' : World) : Prop where
  os : w'.os = w.os
  tape : w'.tape = w.tape
  output : w'.output = w.output
  size : w.heap.size ≤ w'.heap.size
  block : ∀ k, k < w.heap.size → k ≠ c → k ≠ lb → w'.heap[k]? = w.heap[k]?

section
variable {w w' w'' : World} {c lb : Nat}
theorem Only.refl (c lb : Nat) (w : World) : Only c lb w w := ⟨rfl, rfl, rfl, Nat.le_refl _, fun _ _ _ _ => rfl⟩
theorem Only.trans (h : Only c lb w w') (k : Only c lb w' w'') : Only c lb w w'' :=
  ⟨k.os.trans h.os, k.tape.trans h.tape, k.output.trans h.output, Nat.le_trans h.size k.size, fun i hi h1 h2 => (k.block i (Nat.lt_of_lt_of_le hi h.size) h1 h2).trans (h.block i hi h1 h2)⟩
theorem Only.drew (h : Only c lb w w') : Only c lb w w'.drew := ⟨h.os, h.tape, h.output, h.size, h.block⟩
theorem Only.drewN (h : Only c lb w w') (n : Nat) : Only c lb w (w'.drewN n) := ⟨h.os, h.tape, h.output, h.size, h.block⟩
theorem Only.alloc (h : Only c lb w w') (o : Obj) : Only c lb w (w'.alloc o) :=
  h.trans ⟨rfl, rfl, rfl, by simp, fun k hk _ _ => Below.heap_alloc _ _ _ hk⟩
theorem Only.setC (h : Only c lb w w') (i : Nat) (u : Value) : Only c lb w (w'.setCell ⟨c, i, none⟩ u) :=
  h.trans ⟨rfl, rfl, rfl, by simp [World.setCell], fun k _ h1 _ => Below.heap_setCell _ _ _ _ h1⟩
theorem Only.setB (h : Only c lb w w') (i : Nat) (u : Value) : Only c lb w (w'.setCell ⟨lb, i, none⟩ u) :=
  h.trans ⟨rfl, rfl, rfl, by simp [World.setCell], fun k _ _ h2 => Below.heap_setCell _ _ _ _ h2⟩
theorem Only.blk (h : Only c lb w w') {g : Nat} {t : TypeId} {cs : Array Value} (hb : Blk w g t cs) (h1 : g ≠ c) (h2 : g ≠ lb) : Blk w' g t cs := (h.block g hb.lt h1 h2).trans hb
theorem Only.below (h : Only c lb w w') {B : Nat} {w0 : World} (hb : Below B w0 w) (hB : B ≤ w.heap.size) (h1 : B ≤ c) (h2 : B ≤ lb) : Below B w0 w' :=
  hb.trans ⟨h.os, h.tape, h.output, h.size, fun k hk => h.block k (by omega) (by omega) (by omega)⟩
end

end Go.Proofs.Ytpekigmkmeapaaa
