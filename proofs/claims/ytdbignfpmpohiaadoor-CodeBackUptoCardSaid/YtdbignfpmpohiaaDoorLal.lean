/-
  The walk of CodeAll: each byte, with any two behind it, tells what the chapter says. Conditions: none.
-/
import Derived.Test.YtdbignfpmpohiaaDoorKno
namespace Go.Proofs.YtdbignfpmpohiaaDoor
open Go.RowKit

theorem atM_three (c n m : Int) (hc : 0 ≤ c ∧ c ≤ 255) (hn : 0 ≤ n ∧ n ≤ 255) (hm : 0 ≤ m ∧ m ≤ 255) : (atM [c, n, m] 0).1.l ≤ 3 ∧ 1 ≤ (atM [c, n, m] 0).1.l := by
  have hb : ∀ v ∈ [c, n, m], 0 ≤ v ∧ v ≤ 255 := by intro v hv; simp at hv; rcases hv with rfl | rfl | rfl <;> assumption
  have h0 : atM [c, n, m] 0 = atN [c, n, m] 0 := rfl
  have hok : (atN [c, n, m] 0).2 = 0 := by
    unfold atN
    simp only [List.length_cons, List.length_nil]
    rw [if_neg (by omega)]
    split
    · rfl
    · rw [if_neg (by omega)]
  have := atN_len [c, n, m] hb 0 hok
  rw [h0]
  exact ⟨this.2.1, this.1⟩

set_option maxRecDepth 100000 in
set_option maxHeartbeats 2000000 in
theorem codeall_walk (n m : Int) (w : World) (ht : Tabs w) (hn : 0 ≤ n ∧ n ≤ 255) (hm : 0 ≤ m ∧ m ≤ 255) :
    Calls Tryd.prog 4 #[.int .u8 n, .int .u8 m] w fun e w' => e = .returned (.bool true) ∧ Below w.heap.size w w' := by
  have HT := Lib.hid ht
  clear ht
  go_enter Tryd.func4, Tryd.ntmps4
  go_wp2
  go_loopg [5] 256 (fun g s5 wr => ∃ j : Nat, j + g = 256 ∧ s5 = .int .i64 j ∧ Below w.heap.size w wr)
  case atStart => exact ⟨0, rfl, rfl, Below.refl _ _⟩
  case round =>
    obtain ⟨j, hj, rfl, hb1⟩ := hrel
    have hsz1 := hb1.size
    cases gk with
    | zero =>
      have hjn : ¬ ((j : Int) < 256) := by omega
      go_wp2_with (go_at_call 11; refine (known_any _ (HT.out.keep hb1)).mono ?_; rintro e w6 ⟨rfl, hb6⟩)
      go_ret
      exact ⟨rfl, hb1.trans (hb6.mono hsz1)⟩
    | succ g =>
      have hjn : (j : Int) < 256 := by omega
      have hv : ∀ v ∈ [(j : Int), n, m], 0 ≤ v ∧ v ≤ 255 := by intro v hv; simp at hv; rcases hv with rfl | rfl | rfl <;> omega
      have b0 := Blk.new wr 5 (byteCells [(j : Int), n, m])
      have hb2 := hb1.alloc hsz1 (.cells (byteCells [(j : Int), n, m]) 5)
      have h1 := cat_any (wr.alloc (.cells (byteCells [(j : Int), n, m]) 5)) (some ⟨wr.heap.size, 0, none⟩) [(j : Int), n, m] 3 0 (HT.out.keep hb2) (by omega) (by simp) (Byts.of_blk b0 hv)
      have hl := atM_three j n m ⟨by omega, by omega⟩ hn hm
      obtain ⟨r, hr⟩ : ∃ r, r = atM [(j : Int), n, m] 0 := ⟨_, rfl⟩
      have h2 := fun (W : World) (hW : Below (wr.alloc (.cells (byteCells [(j : Int), n, m]) 5)).heap.size (wr.alloc (.cells (byteCells [(j : Int), n, m]) 5)) W) =>
        rat_any W (some ⟨wr.heap.size, 0, none⟩) [(j : Int), n, m] 3 0 (by omega) (by simp) ((Byts.of_blk b0 hv).below hW)
      rw [← hr] at h1 hl
      simp only [← hr] at h2
      have H1 := Lib.hid h1
      have H2 := Lib.hid h2
      clear h1 h2 b0 hv hr
      go_wp2_with fail
      refine H1.out.mono ?_
      rintro e w2 ⟨rfl, hb3⟩
      have hb4 := hb2.trans (hb3.mono (by simp; omega))
      have hb3' := hb3.alloc hb3.size (.cells #[.int .i64 r.1.k, .int .i64 r.1.n, .int .i64 r.1.m, .int .i64 r.1.l] 25)
      have bo := Blk.new w2 25 #[.int .i64 r.1.k, .int .i64 r.1.n, .int .i64 r.1.m, .int .i64 r.1.l]
      have hb4' := hb4.alloc hb4.size (.cells #[.int .i64 r.1.k, .int .i64 r.1.n, .int .i64 r.1.m, .int .i64 r.1.l] 25)
      go_wp2_with fail
      refine (H2.out _ hb3').mono ?_
      rintro e w3 ⟨rfl, hb5⟩
      have bo3 := fun o1 => (bo.keep hb5).alloc o1
      have c0 := fun o1 => (bo3 o1).cell 0
      have c1 := fun o1 => (bo3 o1).cell 1
      have c2 := fun o1 => (bo3 o1).cell 2
      have c3 := fun o1 => (bo3 o1).cell 3
      simp at c0 c1 c2 c3
      have hb6 := hb4'.trans (hb5.mono hb4'.size)
      have hl1 := hl.1
      have hl2 := hl.2
      clear hb5 hb3 hb3' hb4 hb4' bo bo3 hl H1 H2 hb2 hb1 hsz1
      go_wp2
      go_roundg g
      case measure => omega
      case rel => exact ⟨j + 1, by omega, by go_num, hb6.alloc hb6.size _⟩
end Go.Proofs.YtdbignfpmpohiaaDoor
