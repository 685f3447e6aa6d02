/-
  code.At where three bytes, or more, are there.
-/
import Derived.Test.YtdbignfpmpohiaaDoorAt
namespace Go.Proofs.YtdbignfpmpohiaaDoor
open Go.RowKit

set_option maxRecDepth 100000 in
set_option maxHeartbeats 4000000 in
theorem cat_three (w : World) (b off len cap i : Nat) (c n m : Int) (o : O4) (ht : Tabs w) (hl : cap ≤ 9223372036854775807) (hi : i + 3 ≤ len) (hlen : len ≤ cap) (hc : 0 ≤ c ∧ c ≤ 255) (hn : 0 ≤ n ∧ n ≤ 255) (hm : 0 ≤ m ∧ m ≤ 255) (hlc : longC c) (hb : b < w.heap.size)
    (hcell : w.cell? ⟨b, off + i, none⟩ = some (.int .u8 c)) (hcell2 : w.cell? ⟨b, off + (i + 1), none⟩ = some (.int .u8 n)) (hcell3 : w.cell? ⟨b, off + (i + 1) + 1, none⟩ = some (.int .u8 m)) (hone : oneM c = (o, false)) :
    Calls Tryd.prog 12 #[.slice (some ⟨b, off, none⟩) len cap, .int .i64 i] w (RetE (moreM c n m, 0) w) := by
  have hd1 : decide (((len - (i + 1) : Nat) : Int) < 1) = false := by simp; omega
  have hd2 : decide (((len - (i + 1) : Nat) : Int) < 2) = false := by simp; omega
  have hd3 : decide ((1 : Int) < ((len - (i + 1) : Nat) : Int)) = true := by simp; omega
  have HO := Lib.hid hone
  clear hone
  have ht1 := ht.alloc (.cells #[.int .i64 0, .int .i64 0, .int .i64 0, .int .i64 0] 25)
  have b1 := Blk.new w 25 #[.int .i64 0, .int .i64 0, .int .i64 0, .int .i64 0]
  have hb1 := (Below.refl w.heap.size w).alloc (Nat.le_refl _) (.cells #[.int .i64 0, .int .i64 0, .int .i64 0, .int .i64 0] 25)
  have hcc : c = 132 ∨ c = 134 ∨ ((c == 132) = false ∧ (c == 134) = false) := by
    by_cases h1 : c = 132
    · exact Or.inl h1
    · by_cases h2 : c = 134
      · exact Or.inr (Or.inl h2)
      · exact Or.inr (Or.inr ⟨by simp; omega, by simp; omega⟩)
  rcases hcc with rfl | rfl | ⟨e1, e2⟩
  · go_enter Tryd.func12, Tryd.ntmps12
    go_wp2_with fail
    refine (one_any _ _ ht1 hc).mono ?_
    rintro e w2 hr
    unfold Ret2 at hr
    rw [HO.out] at hr
    obtain ⟨rfl, hb2⟩ := hr
    have b2 := b1.keep hb2
    have hb2' := hb1.trans (hb2.mono (by simp))
    have hlt := b2.lt
    have f2 := b2.frozen
    have c0 := b2.cell 0
    have c1 := b2.cell 1
    have c2 := b2.cell 2
    have c3 := b2.cell 3
    simp at c0 c1 c2 c3
    clear b1 hb1 ht1 HO hcell hb2
    have hm2 : ∀ o1, (w2.alloc o1).cell? ⟨b, off + (i + 1), none⟩ = some (.int .u8 n) := fun o1 => ((hb2'.alloc (by omega) o1).cell (p := ⟨b, off + (i + 1), none⟩) hb).trans hcell2
    have hm3 : ∀ o1, (w2.alloc o1).cell? ⟨b, off + (i + 1) + 1, none⟩ = some (.int .u8 m) := fun o1 => ((hb2'.alloc (by omega) o1).cell (p := ⟨b, off + (i + 1) + 1, none⟩) hb).trans hcell3
    have ht2 := fun o1 => (ht.keep hb2').alloc o1
    clear c0 c1 c2 c3
    go_wp2_with fail
    refine (more_any _ n m _ (ht2 _) hlc hn).mono ?_
    rintro e w3 ⟨rfl, hb3⟩
    have b3 := (b2.alloc _).keep hb3
    have hb3' := (hb2'.alloc (by omega) _).trans (hb3.mono (by simp; omega))
    have hlt3 := b3.lt
    have f3 := b3.frozen
    have c0 := b3.cell 0
    have c1 := b3.cell 1
    have c2 := b3.cell 2
    have c3 := b3.cell 3
    simp at c0 c1 c2 c3
    clear hb3 b2 hb2' ht2 hm2
    go_wp2
    have b4 := b3.set4 (.int .i64 (moreM 132 n m).k) (.int .i64 (moreM 132 n m).n) (.int .i64 (moreM 132 n m).m) (.int .i64 (moreM 132 n m).l)
    exact bodyPost_ret (results_cell_tmp Tryd.results12 _ _ w.heap.size 25 _ (0, 0) _ rfl b4 Tryd.underlying25 rfl size25) rfl ⟨rfl, below_set4 hb3' (Nat.le_refl _) _ _ _ _⟩
  · go_enter Tryd.func12, Tryd.ntmps12
    go_wp2_with fail
    refine (one_any _ _ ht1 hc).mono ?_
    rintro e w2 hr
    unfold Ret2 at hr
    rw [HO.out] at hr
    obtain ⟨rfl, hb2⟩ := hr
    have b2 := b1.keep hb2
    have hb2' := hb1.trans (hb2.mono (by simp))
    have hlt := b2.lt
    have f2 := b2.frozen
    have c0 := b2.cell 0
    have c1 := b2.cell 1
    have c2 := b2.cell 2
    have c3 := b2.cell 3
    simp at c0 c1 c2 c3
    clear b1 hb1 ht1 HO hcell hb2
    have hm2 : ∀ o1, (w2.alloc o1).cell? ⟨b, off + (i + 1), none⟩ = some (.int .u8 n) := fun o1 => ((hb2'.alloc (by omega) o1).cell (p := ⟨b, off + (i + 1), none⟩) hb).trans hcell2
    have hm3 : ∀ o1, (w2.alloc o1).cell? ⟨b, off + (i + 1) + 1, none⟩ = some (.int .u8 m) := fun o1 => ((hb2'.alloc (by omega) o1).cell (p := ⟨b, off + (i + 1) + 1, none⟩) hb).trans hcell3
    have ht2 := fun o1 => (ht.keep hb2').alloc o1
    clear c0 c1 c2 c3
    go_wp2_with fail
    refine (more_any _ n m _ (ht2 _) hlc hn).mono ?_
    rintro e w3 ⟨rfl, hb3⟩
    have b3 := (b2.alloc _).keep hb3
    have hb3' := (hb2'.alloc (by omega) _).trans (hb3.mono (by simp; omega))
    have hlt3 := b3.lt
    have f3 := b3.frozen
    have c0 := b3.cell 0
    have c1 := b3.cell 1
    have c2 := b3.cell 2
    have c3 := b3.cell 3
    simp at c0 c1 c2 c3
    clear hb3 b2 hb2' ht2 hm2
    go_wp2
    have b4 := b3.set4 (.int .i64 (moreM 134 n m).k) (.int .i64 (moreM 134 n m).n) (.int .i64 (moreM 134 n m).m) (.int .i64 (moreM 134 n m).l)
    exact bodyPost_ret (results_cell_tmp Tryd.results12 _ _ w.heap.size 25 _ (0, 0) _ rfl b4 Tryd.underlying25 rfl size25) rfl ⟨rfl, below_set4 hb3' (Nat.le_refl _) _ _ _ _⟩
  · go_enter Tryd.func12, Tryd.ntmps12
    go_wp2_with fail
    refine (one_any _ _ ht1 hc).mono ?_
    rintro e w2 hr
    unfold Ret2 at hr
    rw [HO.out] at hr
    obtain ⟨rfl, hb2⟩ := hr
    have b2 := b1.keep hb2
    have hb2' := hb1.trans (hb2.mono (by simp))
    have hlt := b2.lt
    have f2 := b2.frozen
    have c0 := b2.cell 0
    have c1 := b2.cell 1
    have c2 := b2.cell 2
    have c3 := b2.cell 3
    simp at c0 c1 c2 c3
    clear b1 hb1 ht1 HO hcell hb2
    have hm2 : ∀ o1, (w2.alloc o1).cell? ⟨b, off + (i + 1), none⟩ = some (.int .u8 n) := fun o1 => ((hb2'.alloc (by omega) o1).cell (p := ⟨b, off + (i + 1), none⟩) hb).trans hcell2
    have hm3 : ∀ o1, (w2.alloc o1).cell? ⟨b, off + (i + 1) + 1, none⟩ = some (.int .u8 m) := fun o1 => ((hb2'.alloc (by omega) o1).cell (p := ⟨b, off + (i + 1) + 1, none⟩) hb).trans hcell3
    have ht2 := fun o1 => (ht.keep hb2').alloc o1
    clear c0 c1 c2 c3
    go_wp2_with fail
    refine (more_any _ n m _ (ht2 _) hlc hn).mono ?_
    rintro e w3 ⟨rfl, hb3⟩
    have b3 := (b2.alloc _).keep hb3
    have hb3' := (hb2'.alloc (by omega) _).trans (hb3.mono (by simp; omega))
    have hlt3 := b3.lt
    have f3 := b3.frozen
    have c0 := b3.cell 0
    have c1 := b3.cell 1
    have c2 := b3.cell 2
    have c3 := b3.cell 3
    simp at c0 c1 c2 c3
    clear hb3 b2 hb2' ht2 hm2
    go_wp2
    have b4 := b3.set4 (.int .i64 (moreM c n m).k) (.int .i64 (moreM c n m).n) (.int .i64 (moreM c n m).m) (.int .i64 (moreM c n m).l)
    exact bodyPost_ret (results_cell_tmp Tryd.results12 _ _ w.heap.size 25 _ (0, 0) _ rfl b4 Tryd.underlying25 rfl size25) rfl ⟨rfl, below_set4 hb3' (Nat.le_refl _) _ _ _ _⟩

end Go.Proofs.YtdbignfpmpohiaaDoor
