/-
  websterref12.At where two bytes are told, or three.
-/
import Derived.Test.YtdbignfpmpohiaaDoorRat
import Derived.Deep.DeepCutAuto
namespace Go.Proofs.YtdbignfpmpohiaaDoor
open Go.RowKit

theorem Blk.far4 {w : World} {g g' : Nat} {t : TypeId} {cs : Array Value} (h : Blk w g t cs) (hne : g ≠ g') (a b c d : Value) :
    Blk ((((w.setCell ⟨g', 0, none⟩ a).setCell ⟨g', 1, none⟩ b).setCell ⟨g', 2, none⟩ c).setCell ⟨g', 3, none⟩ d) g t cs :=
  (((h.far (p := ⟨g', 0, none⟩) hne a).far (p := ⟨g', 1, none⟩) hne b).far (p := ⟨g', 2, none⟩) hne c).far (p := ⟨g', 3, none⟩) hne d

set_option maxRecDepth 100000 in
set_option maxHeartbeats 600000 in
theorem rat_two (w : World) (b off len cap i : Nat) (c n : Int) (hcap : cap ≤ 9223372036854775807) (hlen : len ≤ cap) (hi : i + 2 ≤ len) (hc : 0 ≤ c ∧ c ≤ 255) (hn : 0 ≤ n ∧ n ≤ 255) (hb : b < w.heap.size) (hlc : longC c)
    (hcell : w.cell? ⟨b, off + i, none⟩ = some (.int .u8 c)) (hcell2 : w.cell? ⟨b, off + (i + 1), none⟩ = some (.int .u8 n)) (hk : longM c = 2) (hl1 : (moreM c n 0).l = 2) :
    Calls Tryd.prog 13 #[.slice (some ⟨b, off, none⟩) len cap, .int .i64 i] w (RetE ((moreM c n 0), 0) w) := by
  have HK := Lib.hid hk
  have HL := Lib.hid hl1
  clear hk hl1
  have b1 := Blk.new w 25 #[.int .i64 0, .int .i64 0, .int .i64 0, .int .i64 0]
  have hb1 := (Below.refl w.heap.size w).alloc (Nat.le_refl _) (.cells #[.int .i64 0, .int .i64 0, .int .i64 0, .int .i64 0] 25)
  go_enter Tryd.func13, Tryd.ntmps13
  go_wp2_with fail
  refine (long_any c _ hc).mono ?_
  rintro e w' ⟨rfl, rfl⟩
  rw [HK.out]
  go_wp2_with fail
  refine (short_any c _ hc).mono ?_
  rintro e w2 ⟨rfl, hb2⟩
  have b2 := b1.keep hb2
  have hb2' := hb1.trans (hb2.mono (by simp))
  have hlt := b2.lt
  obtain ⟨o, ho⟩ : ∃ o : Array Value, o = #[.int .i64 (oneM c).1.k, .int .i64 (oneM c).1.n, .int .i64 (oneM c).1.m, .int .i64 0] := ⟨_, rfl⟩
  have bo := Blk.new w2 25 #[.int .i64 (oneM c).1.k, .int .i64 (oneM c).1.n, .int .i64 (oneM c).1.m, .int .i64 0]
  have hm2 : ∀ o1, (w2.alloc o1).cell? ⟨b, off + (i + 1), none⟩ = some (.int .u8 n) := fun o1 => ((hb2'.alloc (by omega) o1).cell (p := ⟨b, off + (i + 1), none⟩) hb).trans hcell2
  clear hb2 b1 hb1 hcell ho
  go_wp2_with fail
  refine (wide_any c n 0 _ hlc hn).mono ?_
  rintro e w3 ⟨he, hb3⟩
  have he' : e = .returned (.agg #[.int .i64 (moreM c n 0).k, .int .i64 (moreM c n 0).n, .int .i64 (moreM c n 0).m, .int .i64 0]) := he
  clear he
  subst he'
  have bo3 := bo.keep hb3
  have b3 := (b2.alloc _).keep hb3
  have hb3' := (hb2'.alloc (by omega) _).trans (hb3.mono (by simp; omega))
  have hlt3 := b3.lt
  have f3 := b3.frozen
  have c0 := b3.cell 0
  have c1 := b3.cell 1
  have c2 := b3.cell 2
  have c3 := b3.cell 3
  have fo3 := bo3.frozen
  have d0 := bo3.cell 0
  have d1 := bo3.cell 1
  have d2 := bo3.cell 2
  have d3 := bo3.cell 3
  simp at c0 c1 c2 c3 d0 d1 d2 d3
  have hlo := bo3.lt
  go_upto_region 12 with (fail)
  have bo4 := bo3.set4 (.int .i64 (moreM c n 0).k) (.int .i64 (moreM c n 0).n) (.int .i64 (moreM c n 0).m) (.int .i64 0)
  have b4 := b3.far4 (g' := w2.heap.size) (by omega) (.int .i64 (moreM c n 0).k) (.int .i64 (moreM c n 0).n) (.int .i64 (moreM c n 0).m) (.int .i64 0)
  have hb4 := below_set4 hb3' (g := w2.heap.size) (by omega) (.int .i64 (moreM c n 0).k) (.int .i64 (moreM c n 0).n) (.int .i64 (moreM c n 0).m) (.int .i64 0)
  generalize hw4 : ((((w3.setCell ⟨w2.heap.size, 0, none⟩ (.int .i64 (moreM c n 0).k)).setCell ⟨w2.heap.size, 1, none⟩ (.int .i64 (moreM c n 0).n)).setCell ⟨w2.heap.size, 2, none⟩ (.int .i64 (moreM c n 0).m)).setCell ⟨w2.heap.size, 3, none⟩ (.int .i64 0)) = w4 at bo4 b4 hb4 ⊢
  clear hw4 hb3' b3 bo3 c0 c1 c2 c3 d0 d1 d2 d3 f3 fo3 hlt3 hlo
  have hlt3 := b4.lt
  have f3 := b4.frozen
  have c0 := b4.cell 0
  have c1 := b4.cell 1
  have c2 := b4.cell 2
  have c3 := b4.cell 3
  have fo3 := bo4.frozen
  have d0 := bo4.cell 0
  have d1 := bo4.cell 1
  have d2 := bo4.cell 2
  have d3 := bo4.cell 3
  simp at c0 c1 c2 c3 d0 d1 d2 d3
  have hge : w.heap.size ≤ w2.heap.size := by omega
  have hne1 : ¬ (w.heap.size = w2.heap.size) := by omega
  have hne2 : ¬ (w2.heap.size = w.heap.size) := by omega
  go_wp2
  have b5 := (b4.far (p := ⟨w2.heap.size, 3, none⟩) hne1 (.int .i64 2)).set4 (.int .i64 (moreM c n 0).k) (.int .i64 (moreM c n 0).n) (.int .i64 (moreM c n 0).m) (.int .i64 2)
  refine bodyPost_ret (results_cell_tmp Tryd.results13 _ _ w.heap.size 25 _ (0, 0) _ rfl b5 Tryd.underlying25 rfl size25) rfl ⟨?_, below_set4 (hb4.setCell (p := ⟨w2.heap.size, 3, none⟩) hge _) (Nat.le_refl _) _ _ _ _⟩
  show _ = Ending.returned (.tuple #[.agg #[.int .i64 (moreM c n 0).k, .int .i64 (moreM c n 0).n, .int .i64 (moreM c n 0).m, .int .i64 (moreM c n 0).l], .int .i64 0])
  rw [HL.out]
  rfl
end Go.Proofs.YtdbignfpmpohiaaDoor
