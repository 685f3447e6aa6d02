/-
  The contracts of code.At and of websterref12.At: both tell 'atM'.
-/
import Derived.Test.YtdbignfpmpohiaaDoorRef
import Derived.Deep.QuietTactic
import Derived.BigQuiet
import Derived.Deep.RegionHeld3
namespace Go.Proofs.YtdbignfpmpohiaaDoor
open Go.RowKit

/-- bytes that lie at an address -/
def Byts (w : World) (A : Option Addr) (bs : List Int) : Prop :=
  ∀ j v, bs[j]? = some v → 0 ≤ v ∧ v ≤ 255 ∧ ∃ b off, A = some ⟨b, off, none⟩ ∧ b < w.heap.size ∧ w.cell? ⟨b, off + j, none⟩ = some (.int .u8 v)

theorem Byts.below {w w' : World} {A : Option Addr} {bs : List Int} (h : Byts w A bs) (hb : Below w.heap.size w w') : Byts w' A bs := by
  intro j v hv
  obtain ⟨h1, h2, b, off, hA, hl, hc⟩ := h j v hv
  exact ⟨h1, h2, b, off, hA, Nat.lt_of_lt_of_le hl hb.size, (hb.cell (p := ⟨b, off + j, none⟩) hl).trans hc⟩
theorem Byts.alloc {w : World} {A : Option Addr} {bs : List Int} (h : Byts w A bs) (o : Obj) : Byts (w.alloc o) A bs := h.below ((Below.refl _ w).alloc (Nat.le_refl _) o)

theorem Blk.below {w w' : World} {B g : Nat} {t : TypeId} {cs : Array Value} (h : Blk w g t cs) (hb : Below B w w') (hg : g < B) : Blk w' g t cs := (hb.block g hg).trans h
theorem Blk.keep {w w' : World} {g : Nat} {t : TypeId} {cs : Array Value} (h : Blk w g t cs) (hb : Below w.heap.size w w') : Blk w' g t cs := h.below hb h.lt

/-- what is told at a place -/
def atN (bs : List Int) (i : Nat) : O4 × Int :=
  if bs.length ≤ i then (⟨0, 0, 0, 0⟩, 4)
  else if (oneM (bs.getD i 0)).2 = true then ((oneM (bs.getD i 0)).1, 0)
  else if bs.length < i + 2 ∨ ((bs.getD i 0 = 132 ∨ bs.getD i 0 = 134) ∧ bs.length < i + 3) then (⟨0, 0, 0, 0⟩, 5)
  else (moreM (bs.getD i 0) (bs.getD (i + 1) 0) (bs.getD (i + 2) 0), 0)
def atM (bs : List Int) (i : Int) : O4 × Int := if i < 0 then (⟨0, 0, 0, 0⟩, 4) else atN bs i.toNat

/-- what a function leaves that returns something to do, and a number -/
def RetE (r : O4 × Int) (w : World) (e : Ending) (w' : World) : Prop :=
  e = .returned (.tuple #[.agg #[.int .i64 r.1.k, .int .i64 r.1.n, .int .i64 r.1.m, .int .i64 r.1.l], .int .i64 r.2]) ∧ Below w.heap.size w w'
theorem RetE.of {r r' : O4 × Int} {w : World} {e : Ending} {w' : World} (h : RetE r w e w') (hr : r = r') : RetE r' w e w' := by subst hr; exact h

theorem oneM_long (c : Int) (h : 0 ≤ c ∧ c ≤ 255) : (oneM c).2 = false ↔ longC c := by
  unfold longC
  have key : ∀ n : Nat, n < 256 → ((oneM n).2 = false ↔ (128 ≤ (n : Int) ∧ (n : Int) ≤ 134) ∨ (160 ≤ (n : Int) ∧ (n : Int) ≤ 175)) := by decide +kernel
  have := key c.toNat (by omega)
  rw [show ((c.toNat : Nat) : Int) = c from by omega] at this
  exact this

set_option maxHeartbeats 1000000 in
theorem cat_none (w : World) (A : Option Addr) (len cap : Nat) (i : Int) (hi : i < 0 ∨ (len : Int) ≤ i) :
    Calls Tryd.prog 12 #[.slice A len cap, .int .i64 i] w (RetE (⟨0, 0, 0, 0⟩, 4) w) := by
  by_cases h0 : i < 0
  · clear hi
    go_enter Tryd.func12, Tryd.ntmps12
    go_wp2
    exact bodyPost_ret (results_cell_tmp Tryd.results12 _ _ w.heap.size 25 _ (0, 0) _ rfl (Blk.new w 25 _) Tryd.underlying25 rfl size25) rfl ⟨rfl, (Below.refl _ w).alloc (Nat.le_refl _) _⟩
  · have h1 : (len : Int) ≤ i := by omega
    clear hi
    go_enter Tryd.func12, Tryd.ntmps12
    go_wp2
    exact bodyPost_ret (results_cell_tmp Tryd.results12 _ _ w.heap.size 25 _ (0, 0) _ rfl (Blk.new w 25 _) Tryd.underlying25 rfl size25) rfl ⟨rfl, (Below.refl _ w).alloc (Nat.le_refl _) _⟩

set_option maxRecDepth 100000 in
set_option maxHeartbeats 1000000 in
theorem cat_one (w : World) (b off len cap i : Nat) (c : Int) (o : O4) (ht : Tabs w) (hi : i < len) (hc : 0 ≤ c ∧ c ≤ 255) (hb : b < w.heap.size)
    (hcell : w.cell? ⟨b, off + i, none⟩ = some (.int .u8 c)) (hone : oneM c = (o, true)) :
    Calls Tryd.prog 12 #[.slice (some ⟨b, off, none⟩) len cap, .int .i64 i] w (RetE (o, 0) w) := by
  have HO := Lib.hid hone
  clear hone
  have ht1 := ht.alloc (.cells #[.int .i64 0, .int .i64 0, .int .i64 0, .int .i64 0] 25)
  have b1 := Blk.new w 25 #[.int .i64 0, .int .i64 0, .int .i64 0, .int .i64 0]
  have hb1 := (Below.refl w.heap.size w).alloc (Nat.le_refl _) (.cells #[.int .i64 0, .int .i64 0, .int .i64 0, .int .i64 0] 25)
  go_enter Tryd.func12, Tryd.ntmps12
  go_wp2_with fail
  refine (one_any _ _ ht1 hc).mono ?_
  rintro e w2 hr
  unfold Ret2 at hr
  rw [HO.out] at hr
  obtain ⟨rfl, hb2⟩ := hr
  have b2 := b1.keep hb2
  have hb2' := hb1.trans (hb2.mono (by simp))
  have hlt := b2.lt
  have f2 := b2.frozen
  have c0 := b2.cell 0
  have c1 := b2.cell 1
  have c2 := b2.cell 2
  have c3 := b2.cell 3
  simp at c0 c1 c2 c3
  clear hb2 b1 hb1 ht1 ht HO hcell
  go_wp2
  have b3 := (b2.set4 (.int .i64 o.k) (.int .i64 o.n) (.int .i64 o.m) (.int .i64 o.l)).alloc (.cells #[.int .i64 o.k, .int .i64 o.n, .int .i64 o.m, .int .i64 o.l] 25)
  exact bodyPost_ret (results_cell_tmp Tryd.results12 _ _ w.heap.size 25 _ (0, 0) _ rfl b3 Tryd.underlying25 rfl size25) rfl ⟨rfl, (below_set4 hb2' (Nat.le_refl _) _ _ _ _).alloc (by simp [World.setCell]; omega) _⟩

set_option maxRecDepth 100000 in
set_option maxHeartbeats 2000000 in
theorem cat_form1 (w : World) (b off cap i : Nat) (c : Int) (o : O4) (ht : Tabs w) (hl : cap ≤ 9223372036854775807) (hi : i + 1 ≤ cap) (hc : 0 ≤ c ∧ c ≤ 255) (hb : b < w.heap.size)
    (hcell : w.cell? ⟨b, off + i, none⟩ = some (.int .u8 c)) (hone : oneM c = (o, false)) :
    Calls Tryd.prog 12 #[.slice (some ⟨b, off, none⟩) (i + 1) cap, .int .i64 i] w (RetE (⟨0, 0, 0, 0⟩, 5) w) := by
  have HO := Lib.hid hone
  clear hone
  have ht1 := ht.alloc (.cells #[.int .i64 0, .int .i64 0, .int .i64 0, .int .i64 0] 25)
  have b1 := Blk.new w 25 #[.int .i64 0, .int .i64 0, .int .i64 0, .int .i64 0]
  have hb1 := (Below.refl w.heap.size w).alloc (Nat.le_refl _) (.cells #[.int .i64 0, .int .i64 0, .int .i64 0, .int .i64 0] 25)
  by_cases hcap : cap = i + 1
  · subst hcap
    go_enter Tryd.func12, Tryd.ntmps12
    go_wp2_with fail
    refine (one_any _ _ ht1 hc).mono ?_
    rintro e w2 hr
    unfold Ret2 at hr
    rw [HO.out] at hr
    obtain ⟨rfl, hb2⟩ := hr
    have b2 := b1.keep hb2
    have hb2' := hb1.trans (hb2.mono (by simp))
    have hlt := b2.lt
    have f2 := b2.frozen
    have c0 := b2.cell 0
    have c1 := b2.cell 1
    have c2 := b2.cell 2
    have c3 := b2.cell 3
    simp at c0 c1 c2 c3
    clear b1 hb1 ht1 ht HO hcell hb2
    go_wp2
    have b3 := (b2.set4 (.int .i64 0) (.int .i64 0) (.int .i64 0) (.int .i64 0)).alloc (.cells #[.int .i64 o.k, .int .i64 o.n, .int .i64 o.m, .int .i64 o.l] 25)
    exact bodyPost_ret (results_cell_tmp Tryd.results12 _ _ w.heap.size 25 _ (0, 0) _ rfl b3 Tryd.underlying25 rfl size25) rfl ⟨rfl, (below_set4 hb2' (Nat.le_refl _) _ _ _ _).alloc (by simp [World.setCell]; omega) _⟩
  · have hcap' : i + 1 < cap := by omega
    clear hcap
    go_enter Tryd.func12, Tryd.ntmps12
    go_wp2_with fail
    refine (one_any _ _ ht1 hc).mono ?_
    rintro e w2 hr
    unfold Ret2 at hr
    rw [HO.out] at hr
    obtain ⟨rfl, hb2⟩ := hr
    have b2 := b1.keep hb2
    have hb2' := hb1.trans (hb2.mono (by simp))
    have hlt := b2.lt
    have f2 := b2.frozen
    have c0 := b2.cell 0
    have c1 := b2.cell 1
    have c2 := b2.cell 2
    have c3 := b2.cell 3
    simp at c0 c1 c2 c3
    clear b1 hb1 ht1 ht HO hcell hb2
    go_wp2
    have b3 := (b2.set4 (.int .i64 0) (.int .i64 0) (.int .i64 0) (.int .i64 0)).alloc (.cells #[.int .i64 o.k, .int .i64 o.n, .int .i64 o.m, .int .i64 o.l] 25)
    exact bodyPost_ret (results_cell_tmp Tryd.results12 _ _ w.heap.size 25 _ (0, 0) _ rfl b3 Tryd.underlying25 rfl size25) rfl ⟨rfl, (below_set4 hb2' (Nat.le_refl _) _ _ _ _).alloc (by simp [World.setCell]; omega) _⟩

set_option maxRecDepth 100000 in
set_option maxHeartbeats 2000000 in
theorem cat_form2 (w : World) (b off cap i : Nat) (c : Int) (o : O4) (ht : Tabs w) (hl : cap ≤ 9223372036854775807) (hi : i + 2 ≤ cap) (hcc : c = 132 ∨ c = 134) (hb : b < w.heap.size)
    (hcell : w.cell? ⟨b, off + i, none⟩ = some (.int .u8 c)) (hone : oneM c = (o, false)) :
    Calls Tryd.prog 12 #[.slice (some ⟨b, off, none⟩) (i + 2) cap, .int .i64 i] w (RetE (⟨0, 0, 0, 0⟩, 5) w) := by
  have HO := Lib.hid hone
  clear hone
  have ht1 := ht.alloc (.cells #[.int .i64 0, .int .i64 0, .int .i64 0, .int .i64 0] 25)
  have b1 := Blk.new w 25 #[.int .i64 0, .int .i64 0, .int .i64 0, .int .i64 0]
  have hb1 := (Below.refl w.heap.size w).alloc (Nat.le_refl _) (.cells #[.int .i64 0, .int .i64 0, .int .i64 0, .int .i64 0] 25)
  have hc : 0 ≤ c ∧ c ≤ 255 := by omega
  rcases hcc with rfl | rfl
  · go_enter Tryd.func12, Tryd.ntmps12
    go_wp2_with fail
    refine (one_any _ _ ht1 hc).mono ?_
    rintro e w2 hr
    unfold Ret2 at hr
    rw [HO.out] at hr
    obtain ⟨rfl, hb2⟩ := hr
    have b2 := b1.keep hb2
    have hb2' := hb1.trans (hb2.mono (by simp))
    have hlt := b2.lt
    have f2 := b2.frozen
    have c0 := b2.cell 0
    have c1 := b2.cell 1
    have c2 := b2.cell 2
    have c3 := b2.cell 3
    simp at c0 c1 c2 c3
    clear b1 hb1 ht1 ht HO hcell hb2
    go_wp2
    have b3 := (b2.set4 (.int .i64 0) (.int .i64 0) (.int .i64 0) (.int .i64 0)).alloc (.cells #[.int .i64 o.k, .int .i64 o.n, .int .i64 o.m, .int .i64 o.l] 25)
    exact bodyPost_ret (results_cell_tmp Tryd.results12 _ _ w.heap.size 25 _ (0, 0) _ rfl b3 Tryd.underlying25 rfl size25) rfl ⟨rfl, (below_set4 hb2' (Nat.le_refl _) _ _ _ _).alloc (by simp [World.setCell]; omega) _⟩
  · go_enter Tryd.func12, Tryd.ntmps12
    go_wp2_with fail
    refine (one_any _ _ ht1 hc).mono ?_
    rintro e w2 hr
    unfold Ret2 at hr
    rw [HO.out] at hr
    obtain ⟨rfl, hb2⟩ := hr
    have b2 := b1.keep hb2
    have hb2' := hb1.trans (hb2.mono (by simp))
    have hlt := b2.lt
    have f2 := b2.frozen
    have c0 := b2.cell 0
    have c1 := b2.cell 1
    have c2 := b2.cell 2
    have c3 := b2.cell 3
    simp at c0 c1 c2 c3
    clear b1 hb1 ht1 ht HO hcell hb2
    go_wp2
    have b3 := (b2.set4 (.int .i64 0) (.int .i64 0) (.int .i64 0) (.int .i64 0)).alloc (.cells #[.int .i64 o.k, .int .i64 o.n, .int .i64 o.m, .int .i64 o.l] 25)
    exact bodyPost_ret (results_cell_tmp Tryd.results12 _ _ w.heap.size 25 _ (0, 0) _ rfl b3 Tryd.underlying25 rfl size25) rfl ⟨rfl, (below_set4 hb2' (Nat.le_refl _) _ _ _ _).alloc (by simp [World.setCell]; omega) _⟩

set_option maxRecDepth 100000 in
set_option maxHeartbeats 2000000 in
theorem cat_two (w : World) (b off cap i : Nat) (c n : Int) (o : O4) (ht : Tabs w) (hl : cap ≤ 9223372036854775807) (hi : i + 2 ≤ cap) (hc : 0 ≤ c ∧ c ≤ 255) (hn : 0 ≤ n ∧ n ≤ 255) (hc1 : c ≠ 132) (hc2 : c ≠ 134) (hlc : longC c) (hb : b < w.heap.size)
    (hcell : w.cell? ⟨b, off + i, none⟩ = some (.int .u8 c)) (hcell2 : w.cell? ⟨b, off + (i + 1), none⟩ = some (.int .u8 n)) (hone : oneM c = (o, false)) :
    Calls Tryd.prog 12 #[.slice (some ⟨b, off, none⟩) (i + 2) cap, .int .i64 i] w (RetE (moreM c n 0, 0) w) := by
  have e1 : (c == 132) = false := by simp; omega
  have e2 : (c == 134) = false := by simp; omega
  have HO := Lib.hid hone
  clear hone
  have ht1 := ht.alloc (.cells #[.int .i64 0, .int .i64 0, .int .i64 0, .int .i64 0] 25)
  have b1 := Blk.new w 25 #[.int .i64 0, .int .i64 0, .int .i64 0, .int .i64 0]
  have hb1 := (Below.refl w.heap.size w).alloc (Nat.le_refl _) (.cells #[.int .i64 0, .int .i64 0, .int .i64 0, .int .i64 0] 25)
  go_enter Tryd.func12, Tryd.ntmps12
  go_wp2_with fail
  refine (one_any _ _ ht1 hc).mono ?_
  rintro e w2 hr
  unfold Ret2 at hr
  rw [HO.out] at hr
  obtain ⟨rfl, hb2⟩ := hr
  have b2 := b1.keep hb2
  have hb2' := hb1.trans (hb2.mono (by simp))
  have hlt := b2.lt
  have f2 := b2.frozen
  have c0 := b2.cell 0
  have c1 := b2.cell 1
  have c2 := b2.cell 2
  have c3 := b2.cell 3
  simp at c0 c1 c2 c3
  clear b1 hb1 ht1 HO hcell hb2
  have hm2 : ∀ o1, (w2.alloc o1).cell? ⟨b, off + (i + 1), none⟩ = some (.int .u8 n) := fun o1 => ((hb2'.alloc (by omega) o1).cell (p := ⟨b, off + (i + 1), none⟩) hb).trans hcell2
  have ht2 := fun o1 => (ht.keep hb2').alloc o1
  clear c0 c1 c2 c3
  go_wp2_with fail
  refine (more_any c n 0 _ (ht2 _) hlc hn).mono ?_
  rintro e w3 ⟨rfl, hb3⟩
  have b3 := (b2.alloc _).keep hb3
  have hb3' := (hb2'.alloc (by omega) _).trans (hb3.mono (by simp; omega))
  have hlt3 := b3.lt
  have f3 := b3.frozen
  have c0 := b3.cell 0
  have c1 := b3.cell 1
  have c2 := b3.cell 2
  have c3 := b3.cell 3
  simp at c0 c1 c2 c3
  clear hb3 b2 hb2' ht2 hm2
  go_wp2
  have b4 := b3.set4 (.int .i64 (moreM c n 0).k) (.int .i64 (moreM c n 0).n) (.int .i64 (moreM c n 0).m) (.int .i64 (moreM c n 0).l)
  exact bodyPost_ret (results_cell_tmp Tryd.results12 _ _ w.heap.size 25 _ (0, 0) _ rfl b4 Tryd.underlying25 rfl size25) rfl ⟨rfl, below_set4 hb3' (Nat.le_refl _) _ _ _ _⟩
end Go.Proofs.YtdbignfpmpohiaaDoor
