/-
  websterref12.At where three bytes are told.
-/
import Derived.Test.YtdbignfpmpohiaaDoorRtb
import Derived.StillTailTactics
import Derived.IntWalk
namespace Go.Proofs.YtdbignfpmpohiaaDoor
open Go.RowKit

set_option maxRecDepth 100000 in
set_option maxHeartbeats 1000000 in
theorem rat_three (w : World) (b off len cap i : Nat) (c n m : Int) (hcap : cap ≤ 9223372036854775807) (hlen : len ≤ cap) (hi : i + 3 ≤ len) (hc : 0 ≤ c ∧ c ≤ 255) (hn : 0 ≤ n ∧ n ≤ 255) (hb : b < w.heap.size) (hlc : longC c)
    (hcell : w.cell? ⟨b, off + i, none⟩ = some (.int .u8 c)) (hcell2 : w.cell? ⟨b, off + (i + 1), none⟩ = some (.int .u8 n)) (hm : 0 ≤ m ∧ m ≤ 255) (hcell3 : w.cell? ⟨b, off + (i + 2), none⟩ = some (.int .u8 m)) (hk : longM c = 3) (hl1 : (moreM c n m).l = 3) :
    Calls Tryd.prog 13 #[.slice (some ⟨b, off, none⟩) len cap, .int .i64 i] w (RetE ((moreM c n m), 0) w) := by
  have HK := Lib.hid hk
  have HL := Lib.hid hl1
  clear hk hl1
  have b1 := Blk.new w 25 #[.int .i64 0, .int .i64 0, .int .i64 0, .int .i64 0]
  have hb1 := (Below.refl w.heap.size w).alloc (Nat.le_refl _) (.cells #[.int .i64 0, .int .i64 0, .int .i64 0, .int .i64 0] 25)
  go_enter Tryd.func13, Tryd.ntmps13
  go_wp2_with fail
  refine (long_any c _ hc).mono ?_
  rintro e w' ⟨rfl, rfl⟩
  rw [HK.out]
  go_wp2_with fail
  refine (short_any c _ hc).mono ?_
  rintro e w2 ⟨rfl, hb2⟩
  have b2 := b1.keep hb2
  have hb2' := hb1.trans (hb2.mono (by simp))
  have hlt := b2.lt
  obtain ⟨o, ho⟩ : ∃ o : Array Value, o = #[.int .i64 (oneM c).1.k, .int .i64 (oneM c).1.n, .int .i64 (oneM c).1.m, .int .i64 0] := ⟨_, rfl⟩
  have bo := Blk.new w2 25 #[.int .i64 (oneM c).1.k, .int .i64 (oneM c).1.n, .int .i64 (oneM c).1.m, .int .i64 0]
  have hm2 : ∀ o1, (w2.alloc o1).cell? ⟨b, off + (i + 1), none⟩ = some (.int .u8 n) := fun o1 => ((hb2'.alloc (by omega) o1).cell (p := ⟨b, off + (i + 1), none⟩) hb).trans hcell2
  have hm3 : ∀ o1, (w2.alloc o1).cell? ⟨b, off + (i + 2), none⟩ = some (.int .u8 m) := fun o1 => ((hb2'.alloc (by omega) o1).cell (p := ⟨b, off + (i + 2), none⟩) hb).trans hcell3
  clear hb2 b1 hb1 hcell ho
  go_wp2_with fail
  have hx2 := hm2 (.cells #[.int .i64 (oneM c).1.k, .int .i64 (oneM c).1.n, .int .i64 (oneM c).1.m, .int .i64 0] 25)
  have hx3 := hm3 (.cells #[.int .i64 (oneM c).1.k, .int .i64 (oneM c).1.n, .int .i64 (oneM c).1.m, .int .i64 0] 25)
  have bx := b2.alloc (.cells #[.int .i64 (oneM c).1.k, .int .i64 (oneM c).1.n, .int .i64 (oneM c).1.m, .int .i64 0] 25)
  have hbx := hb2'.alloc (by omega) (.cells #[.int .i64 (oneM c).1.k, .int .i64 (oneM c).1.n, .int .i64 (oneM c).1.m, .int .i64 0] 25)
  obtain ⟨g8, hg8⟩ : ∃ g8, g8 = w2.heap.size := ⟨_, rfl⟩
  rw [← hg8] at bo ⊢
  have hg8l : w.heap.size < g8 := by omega
  generalize hwx : w2.alloc (.cells #[.int .i64 (oneM c).1.k, .int .i64 (oneM c).1.n, .int .i64 (oneM c).1.m, .int .i64 0] 25) = wx at bo hx2 hx3 bx hbx ⊢
  clear hwx hm2 hm3 b2 hb2' hlt hg8
  have hw1 : IntKind.i64.wrap ((i : Int) + 1) = (i : Int) + 1 := IntWalk.i64_in _ (by omega)
  have hw2 : IntKind.i64.wrap ((i : Int) + 2) = (i : Int) + 2 := IntWalk.i64_in _ (by omega)
  have hw3 : ((i : Int) + 1).toNat = i + 1 := by omega
  have hw4 : ((i : Int) + 2).toNat = i + 2 := by omega
  have hw5 : (i : Int) + 1 < (len : Int) := by omega
  have hw6 : (i : Int) + 2 < (len : Int) := by omega
  have hw7 : (0 : Int) ≤ (i : Int) + 1 := by omega
  have hw8 : (0 : Int) ≤ (i : Int) + 2 := by omega
  have hw9 : IntKind.i64.wrap n = n := IntWalk.i64_in _ (by omega)
  have hw0 : IntKind.i64.wrap m = m := IntWalk.i64_in _ (by omega)
  go_still_tail 13, (by kernel_rfl)
  change wpList _ _ _ _ _ wx.drew
  have bo' := bo.drew
  have bx' := bx.drew
  have hbx' := hbx.drew
  clear hw1 hw2 hw3 hw4 hw5 hw6 hw7 hw8 hw9 hw0 hx2 hx3 bo bx hbx
  generalize wx.drew = wy at bo' bx' hbx' ⊢
  have hgy := bo'.lt
  go_wp2_with fail
  refine (wide_any c n m _ hlc hn).mono ?_
  rintro e w3 ⟨he, hb3⟩
  have he' : e = .returned (.agg #[.int .i64 (moreM c n m).k, .int .i64 (moreM c n m).n, .int .i64 (moreM c n m).m, .int .i64 0]) := he
  clear he
  subst he'
  have bo3 := bo'.keep hb3
  have b3 := bx'.keep hb3
  have hb3' := hbx'.trans (hb3.mono (by omega))
  clear hb3 bo' bx' hbx'
  have hlt3 := b3.lt
  have f3 := b3.frozen
  have c0 := b3.cell 0
  have c1 := b3.cell 1
  have c2 := b3.cell 2
  have c3 := b3.cell 3
  have fo3 := bo3.frozen
  have d0 := bo3.cell 0
  have d1 := bo3.cell 1
  have d2 := bo3.cell 2
  have d3 := bo3.cell 3
  simp at c0 c1 c2 c3 d0 d1 d2 d3
  have hlo := bo3.lt
  go_upto_region 12 with (fail)
  have bo4 := bo3.set4 (.int .i64 (moreM c n m).k) (.int .i64 (moreM c n m).n) (.int .i64 (moreM c n m).m) (.int .i64 0)
  have b4 := b3.far4 (g' := g8) (by omega) (.int .i64 (moreM c n m).k) (.int .i64 (moreM c n m).n) (.int .i64 (moreM c n m).m) (.int .i64 0)
  have hb4 := below_set4 hb3' (g := g8) (by omega) (.int .i64 (moreM c n m).k) (.int .i64 (moreM c n m).n) (.int .i64 (moreM c n m).m) (.int .i64 0)
  generalize hw4 : ((((w3.setCell ⟨g8, 0, none⟩ (.int .i64 (moreM c n m).k)).setCell ⟨g8, 1, none⟩ (.int .i64 (moreM c n m).n)).setCell ⟨g8, 2, none⟩ (.int .i64 (moreM c n m).m)).setCell ⟨g8, 3, none⟩ (.int .i64 0)) = w4 at bo4 b4 hb4 ⊢
  clear hw4 hb3' b3 bo3 c0 c1 c2 c3 d0 d1 d2 d3 f3 fo3 hlt3 hlo
  have hlt3 := b4.lt
  have f3 := b4.frozen
  have c0 := b4.cell 0
  have c1 := b4.cell 1
  have c2 := b4.cell 2
  have c3 := b4.cell 3
  have fo3 := bo4.frozen
  have d0 := bo4.cell 0
  have d1 := bo4.cell 1
  have d2 := bo4.cell 2
  have d3 := bo4.cell 3
  simp at c0 c1 c2 c3 d0 d1 d2 d3
  have hge : w.heap.size ≤ g8 := by omega
  have hne1 : ¬ (w.heap.size = g8) := by omega
  have hne2 : ¬ (g8 = w.heap.size) := by omega
  go_wp2
  have b5 := (b4.far (p := ⟨g8, 3, none⟩) hne1 (.int .i64 3)).set4 (.int .i64 (moreM c n m).k) (.int .i64 (moreM c n m).n) (.int .i64 (moreM c n m).m) (.int .i64 3)
  refine bodyPost_ret (results_cell_tmp Tryd.results13 _ _ w.heap.size 25 _ (0, 0) _ rfl b5 Tryd.underlying25 rfl size25) rfl ⟨?_, below_set4 (hb4.setCell (p := ⟨g8, 3, none⟩) hge _) (Nat.le_refl _) _ _ _ _⟩
  show _ = Ending.returned (.tuple #[.agg #[.int .i64 (moreM c n m).k, .int .i64 (moreM c n m).n, .int .i64 (moreM c n m).m, .int .i64 (moreM c n m).l], .int .i64 0])
  rw [HL.out]
  rfl
end Go.Proofs.YtdbignfpmpohiaaDoor
