/-
  The contracts of websterref12.long, short and wide.
-/
import Derived.Test.YtdbignfpmpohiaaDoorMore
namespace Go.Proofs.YtdbignfpmpohiaaDoor
open Go.RowKit

/-- how many bytes there are, by the first one -/
def longM (c : Int) : Int := if c = 132 ∨ c = 134 then 3 else if (128 ≤ c ∧ c ≤ 133) ∨ (160 ≤ c ∧ c ≤ 175) then 2 else 1

set_option maxHeartbeats 1000000 in
theorem long_132 (w : World)  : Calls Tryd.prog 24 #[.int .i64 132] w fun e w' => e = .returned (.int .i64 3) ∧ w = w' := by
  go_enter Tryd.func24, Tryd.ntmps24
  go_wp2
  go_ret
  exact ⟨rfl, rfl⟩

set_option maxHeartbeats 1000000 in
theorem long_134 (w : World)  : Calls Tryd.prog 24 #[.int .i64 134] w fun e w' => e = .returned (.int .i64 3) ∧ w = w' := by
  go_enter Tryd.func24, Tryd.ntmps24
  go_wp2
  go_ret
  exact ⟨rfl, rfl⟩

set_option maxHeartbeats 1000000 in
theorem long_133 (w : World)  : Calls Tryd.prog 24 #[.int .i64 133] w fun e w' => e = .returned (.int .i64 2) ∧ w = w' := by
  go_enter Tryd.func24, Tryd.ntmps24
  go_wp2
  go_ret
  exact ⟨rfl, rfl⟩

set_option maxHeartbeats 1000000 in
theorem long_a (c : Int) (w : World) (hc : 128 ≤ c ∧ c ≤ 131) : Calls Tryd.prog 24 #[.int .i64 c] w fun e w' => e = .returned (.int .i64 2) ∧ w = w' := by
  have e1 : (c == 132) = false := by simp; omega
  have e2 : (c == 134) = false := by simp; omega
  go_enter Tryd.func24, Tryd.ntmps24
  go_wp2
  go_ret
  exact ⟨rfl, rfl⟩

set_option maxHeartbeats 1000000 in
theorem long_b (c : Int) (w : World) (hc : 160 ≤ c ∧ c ≤ 175) : Calls Tryd.prog 24 #[.int .i64 c] w fun e w' => e = .returned (.int .i64 2) ∧ w = w' := by
  have e1 : (c == 132) = false := by simp; omega
  have e2 : (c == 134) = false := by simp; omega
  go_enter Tryd.func24, Tryd.ntmps24
  go_wp2
  go_ret
  exact ⟨rfl, rfl⟩

set_option maxHeartbeats 1000000 in
theorem long_c (c : Int) (w : World) (hc : 0 ≤ c ∧ c < 128) : Calls Tryd.prog 24 #[.int .i64 c] w fun e w' => e = .returned (.int .i64 1) ∧ w = w' := by
  have e1 : (c == 132) = false := by simp; omega
  have e2 : (c == 134) = false := by simp; omega
  go_enter Tryd.func24, Tryd.ntmps24
  go_wp2
  go_ret
  exact ⟨rfl, rfl⟩

set_option maxHeartbeats 1000000 in
theorem long_d (c : Int) (w : World) (hc : 135 ≤ c ∧ c < 160) : Calls Tryd.prog 24 #[.int .i64 c] w fun e w' => e = .returned (.int .i64 1) ∧ w = w' := by
  have e1 : (c == 132) = false := by simp; omega
  have e2 : (c == 134) = false := by simp; omega
  have e3 : decide (128 ≤ c) = true := by simp; omega
  go_enter Tryd.func24, Tryd.ntmps24
  go_wp2
  go_ret
  exact ⟨rfl, rfl⟩

set_option maxHeartbeats 1000000 in
theorem long_e (c : Int) (w : World) (hc : 175 < c ∧ c ≤ 255) : Calls Tryd.prog 24 #[.int .i64 c] w fun e w' => e = .returned (.int .i64 1) ∧ w = w' := by
  have e1 : (c == 132) = false := by simp; omega
  have e2 : (c == 134) = false := by simp; omega
  go_enter Tryd.func24, Tryd.ntmps24
  go_wp2
  go_ret
  exact ⟨rfl, rfl⟩

theorem long_any (c : Int) (w : World) (h : 0 ≤ c ∧ c ≤ 255) : Calls Tryd.prog 24 #[.int .i64 c] w fun e w' => e = .returned (.int .i64 (longM c)) ∧ w = w' := by
  have hcs : c = 132 ∨ c = 134 ∨ c = 133 ∨ (128 ≤ c ∧ c ≤ 131) ∨ (160 ≤ c ∧ c ≤ 175) ∨ (0 ≤ c ∧ c < 128) ∨ (135 ≤ c ∧ c < 160) ∨ (175 < c ∧ c ≤ 255) := by omega
  rcases hcs with rfl | rfl | rfl | hc | hc | hc | hc | hc
  · exact long_132 w
  · exact long_134 w
  · exact long_133 w
  · have e : longM c = 2 := by unfold longM; rw [if_neg (by omega), if_pos (by omega)]
    rw [e]; exact long_a c w hc
  · have e : longM c = 2 := by unfold longM; rw [if_neg (by omega), if_pos (by omega)]
    rw [e]; exact long_b c w hc
  · have e : longM c = 1 := by unfold longM; rw [if_neg (by omega), if_neg (by omega)]
    rw [e]; exact long_c c w hc
  · have e : longM c = 1 := by unfold longM; rw [if_neg (by omega), if_neg (by omega)]
    rw [e]; exact long_d c w hc
  · have e : longM c = 1 := by unfold longM; rw [if_neg (by omega), if_neg (by omega)]
    rw [e]; exact long_e c w hc

set_option maxRecDepth 100000 in
set_option maxHeartbeats 1000000 in
theorem short_a (c : Int) (w : World) (hc : 0 ≤ c ∧ c ≤ 15) :
    Calls Tryd.prog 25 #[.int .i64 c] w (Ret1 ⟨1, c, 0, 0⟩ w) := by
  go_enter Tryd.func25, Tryd.ntmps25
  go_wp2_with (go_at_call 30; refine (op_any _ _ _ _).mono ?_; rintro e w2 ⟨rfl, rfl⟩)
  exact bodyPost_ret (results_cell_row Tryd.results25 _ _ w.heap.size 25 _ (0, 0) _ rfl (((Blk.new w 25 #[.int .i64 1, .int .i64 c, .int .i64 0, .int .i64 0]).alloc _).alloc _) Tryd.underlying25 rfl size25) rfl ⟨rfl, (((Below.refl _ w).alloc (Nat.le_refl _) _).alloc (by simp) _).alloc (by simp; omega) _⟩

set_option maxRecDepth 100000 in
set_option maxHeartbeats 1000000 in
theorem short_b (c : Int) (w : World) (hc : 16 ≤ c ∧ c ≤ 31) :
    Calls Tryd.prog 25 #[.int .i64 c] w (Ret1 ⟨2, (c - 16), 0, 0⟩ w) := by
  go_enter Tryd.func25, Tryd.ntmps25
  go_wp2_with (go_at_call 30; refine (op_any _ _ _ _).mono ?_; rintro e w2 ⟨rfl, rfl⟩)
  exact bodyPost_ret (results_cell_row Tryd.results25 _ _ w.heap.size 25 _ (0, 0) _ rfl (((Blk.new w 25 #[.int .i64 2, .int .i64 (c - 16), .int .i64 0, .int .i64 0]).alloc _).alloc _) Tryd.underlying25 rfl size25) rfl ⟨rfl, (((Below.refl _ w).alloc (Nat.le_refl _) _).alloc (by simp) _).alloc (by simp; omega) _⟩

set_option maxRecDepth 100000 in
set_option maxHeartbeats 1000000 in
theorem short_c (c : Int) (w : World) (hc : 32 ≤ c ∧ c ≤ 63) :
    Calls Tryd.prog 25 #[.int .i64 c] w (Ret1 ⟨3, (c - 32), 0, 0⟩ w) := by
  go_enter Tryd.func25, Tryd.ntmps25
  go_wp2_with (go_at_call 30; refine (op_any _ _ _ _).mono ?_; rintro e w2 ⟨rfl, rfl⟩)
  exact bodyPost_ret (results_cell_row Tryd.results25 _ _ w.heap.size 25 _ (0, 0) _ rfl (((Blk.new w 25 #[.int .i64 3, .int .i64 (c - 32), .int .i64 0, .int .i64 0]).alloc _).alloc _) Tryd.underlying25 rfl size25) rfl ⟨rfl, (((Below.refl _ w).alloc (Nat.le_refl _) _).alloc (by simp) _).alloc (by simp; omega) _⟩

set_option maxRecDepth 100000 in
set_option maxHeartbeats 1000000 in
theorem short_d (c : Int) (w : World) (hc : 64 ≤ c ∧ c ≤ 95) :
    Calls Tryd.prog 25 #[.int .i64 c] w (Ret1 ⟨4, (c - 64), 0, 0⟩ w) := by
  go_enter Tryd.func25, Tryd.ntmps25
  go_wp2_with (go_at_call 30; refine (op_any _ _ _ _).mono ?_; rintro e w2 ⟨rfl, rfl⟩)
  exact bodyPost_ret (results_cell_row Tryd.results25 _ _ w.heap.size 25 _ (0, 0) _ rfl (((Blk.new w 25 #[.int .i64 4, .int .i64 (c - 64), .int .i64 0, .int .i64 0]).alloc _).alloc _) Tryd.underlying25 rfl size25) rfl ⟨rfl, (((Below.refl _ w).alloc (Nat.le_refl _) _).alloc (by simp) _).alloc (by simp; omega) _⟩

set_option maxRecDepth 100000 in
set_option maxHeartbeats 1000000 in
theorem short_e (c : Int) (w : World) (hc : 96 ≤ c ∧ c ≤ 103) :
    Calls Tryd.prog 25 #[.int .i64 c] w (Ret1 ⟨8, (c - 96), 0, 0⟩ w) := by
  go_enter Tryd.func25, Tryd.ntmps25
  go_wp2_with (go_at_call 30; refine (op_any _ _ _ _).mono ?_; rintro e w2 ⟨rfl, rfl⟩)
  exact bodyPost_ret (results_cell_row Tryd.results25 _ _ w.heap.size 25 _ (0, 0) _ rfl (((Blk.new w 25 #[.int .i64 8, .int .i64 (c - 96), .int .i64 0, .int .i64 0]).alloc _).alloc _) Tryd.underlying25 rfl size25) rfl ⟨rfl, (((Below.refl _ w).alloc (Nat.le_refl _) _).alloc (by simp) _).alloc (by simp; omega) _⟩

set_option maxRecDepth 100000 in
set_option maxHeartbeats 1000000 in
theorem short_f (c : Int) (w : World) (hc : 104 ≤ c ∧ c ≤ 111) :
    Calls Tryd.prog 25 #[.int .i64 c] w (Ret1 ⟨9, (c - 104), 0, 0⟩ w) := by
  go_enter Tryd.func25, Tryd.ntmps25
  go_wp2_with (go_at_call 30; refine (op_any _ _ _ _).mono ?_; rintro e w2 ⟨rfl, rfl⟩)
  exact bodyPost_ret (results_cell_row Tryd.results25 _ _ w.heap.size 25 _ (0, 0) _ rfl (((Blk.new w 25 #[.int .i64 9, .int .i64 (c - 104), .int .i64 0, .int .i64 0]).alloc _).alloc _) Tryd.underlying25 rfl size25) rfl ⟨rfl, (((Below.refl _ w).alloc (Nat.le_refl _) _).alloc (by simp) _).alloc (by simp; omega) _⟩

set_option maxRecDepth 100000 in
set_option maxHeartbeats 1000000 in
theorem short_112 (w : World)  :
    Calls Tryd.prog 25 #[.int .i64 112] w (Ret1 ⟨11, 0, 0, 0⟩ w) := by
  go_enter Tryd.func25, Tryd.ntmps25
  go_wp2_with (go_at_call 30; refine (op_any _ _ _ _).mono ?_; rintro e w2 ⟨rfl, rfl⟩)
  exact bodyPost_ret (results_cell_row Tryd.results25 _ _ w.heap.size 25 _ (0, 0) _ rfl (((Blk.new w 25 #[.int .i64 11, .int .i64 0, .int .i64 0, .int .i64 0]).alloc _).alloc _) Tryd.underlying25 rfl size25) rfl ⟨rfl, (((Below.refl _ w).alloc (Nat.le_refl _) _).alloc (by simp) _).alloc (by simp; omega) _⟩

set_option maxRecDepth 100000 in
set_option maxHeartbeats 1000000 in
theorem short_113 (w : World)  :
    Calls Tryd.prog 25 #[.int .i64 113] w (Ret1 ⟨12, 4, 0, 0⟩ w) := by
  go_enter Tryd.func25, Tryd.ntmps25
  go_wp2_with (go_at_call 30; refine (op_any _ _ _ _).mono ?_; rintro e w2 ⟨rfl, rfl⟩)
  exact bodyPost_ret (results_cell_row Tryd.results25 _ _ w.heap.size 25 _ (0, 0) _ rfl (((Blk.new w 25 #[.int .i64 12, .int .i64 4, .int .i64 0, .int .i64 0]).alloc _).alloc _) Tryd.underlying25 rfl size25) rfl ⟨rfl, (((Below.refl _ w).alloc (Nat.le_refl _) _).alloc (by simp) _).alloc (by simp; omega) _⟩

set_option maxRecDepth 100000 in
set_option maxHeartbeats 1000000 in
theorem short_114 (w : World)  :
    Calls Tryd.prog 25 #[.int .i64 114] w (Ret1 ⟨12, 6, 0, 0⟩ w) := by
  go_enter Tryd.func25, Tryd.ntmps25
  go_wp2_with (go_at_call 30; refine (op_any _ _ _ _).mono ?_; rintro e w2 ⟨rfl, rfl⟩)
  exact bodyPost_ret (results_cell_row Tryd.results25 _ _ w.heap.size 25 _ (0, 0) _ rfl (((Blk.new w 25 #[.int .i64 12, .int .i64 6, .int .i64 0, .int .i64 0]).alloc _).alloc _) Tryd.underlying25 rfl size25) rfl ⟨rfl, (((Below.refl _ w).alloc (Nat.le_refl _) _).alloc (by simp) _).alloc (by simp; omega) _⟩

set_option maxRecDepth 100000 in
set_option maxHeartbeats 1000000 in
theorem short_115 (w : World)  :
    Calls Tryd.prog 25 #[.int .i64 115] w (Ret1 ⟨12, 2, 0, 0⟩ w) := by
  go_enter Tryd.func25, Tryd.ntmps25
  go_wp2_with (go_at_call 30; refine (op_any _ _ _ _).mono ?_; rintro e w2 ⟨rfl, rfl⟩)
  exact bodyPost_ret (results_cell_row Tryd.results25 _ _ w.heap.size 25 _ (0, 0) _ rfl (((Blk.new w 25 #[.int .i64 12, .int .i64 2, .int .i64 0, .int .i64 0]).alloc _).alloc _) Tryd.underlying25 rfl size25) rfl ⟨rfl, (((Below.refl _ w).alloc (Nat.le_refl _) _).alloc (by simp) _).alloc (by simp; omega) _⟩

set_option maxRecDepth 100000 in
set_option maxHeartbeats 1000000 in
theorem short_116 (w : World)  :
    Calls Tryd.prog 25 #[.int .i64 116] w (Ret1 ⟨12, (-1), 0, 0⟩ w) := by
  go_enter Tryd.func25, Tryd.ntmps25
  go_wp2_with (go_at_call 30; refine (op_any _ _ _ _).mono ?_; rintro e w2 ⟨rfl, rfl⟩)
  exact bodyPost_ret (results_cell_row Tryd.results25 _ _ w.heap.size 25 _ (0, 0) _ rfl (((Blk.new w 25 #[.int .i64 12, .int .i64 (-1), .int .i64 0, .int .i64 0]).alloc _).alloc _) Tryd.underlying25 rfl size25) rfl ⟨rfl, (((Below.refl _ w).alloc (Nat.le_refl _) _).alloc (by simp) _).alloc (by simp; omega) _⟩

set_option maxRecDepth 100000 in
set_option maxHeartbeats 1000000 in
theorem short_117 (w : World)  :
    Calls Tryd.prog 25 #[.int .i64 117] w (Ret1 ⟨12, 1, 0, 0⟩ w) := by
  go_enter Tryd.func25, Tryd.ntmps25
  go_wp2_with (go_at_call 30; refine (op_any _ _ _ _).mono ?_; rintro e w2 ⟨rfl, rfl⟩)
  exact bodyPost_ret (results_cell_row Tryd.results25 _ _ w.heap.size 25 _ (0, 0) _ rfl (((Blk.new w 25 #[.int .i64 12, .int .i64 1, .int .i64 0, .int .i64 0]).alloc _).alloc _) Tryd.underlying25 rfl size25) rfl ⟨rfl, (((Below.refl _ w).alloc (Nat.le_refl _) _).alloc (by simp) _).alloc (by simp; omega) _⟩

set_option maxRecDepth 100000 in
set_option maxHeartbeats 1000000 in
theorem short_118 (w : World)  :
    Calls Tryd.prog 25 #[.int .i64 118] w (Ret1 ⟨12, 3, 0, 0⟩ w) := by
  go_enter Tryd.func25, Tryd.ntmps25
  go_wp2_with (go_at_call 30; refine (op_any _ _ _ _).mono ?_; rintro e w2 ⟨rfl, rfl⟩)
  exact bodyPost_ret (results_cell_row Tryd.results25 _ _ w.heap.size 25 _ (0, 0) _ rfl (((Blk.new w 25 #[.int .i64 12, .int .i64 3, .int .i64 0, .int .i64 0]).alloc _).alloc _) Tryd.underlying25 rfl size25) rfl ⟨rfl, (((Below.refl _ w).alloc (Nat.le_refl _) _).alloc (by simp) _).alloc (by simp; omega) _⟩

set_option maxRecDepth 100000 in
set_option maxHeartbeats 1000000 in
theorem short_119 (w : World)  :
    Calls Tryd.prog 25 #[.int .i64 119] w (Ret1 ⟨12, 5, 0, 0⟩ w) := by
  go_enter Tryd.func25, Tryd.ntmps25
  go_wp2_with (go_at_call 30; refine (op_any _ _ _ _).mono ?_; rintro e w2 ⟨rfl, rfl⟩)
  exact bodyPost_ret (results_cell_row Tryd.results25 _ _ w.heap.size 25 _ (0, 0) _ rfl (((Blk.new w 25 #[.int .i64 12, .int .i64 5, .int .i64 0, .int .i64 0]).alloc _).alloc _) Tryd.underlying25 rfl size25) rfl ⟨rfl, (((Below.refl _ w).alloc (Nat.le_refl _) _).alloc (by simp) _).alloc (by simp; omega) _⟩

set_option maxRecDepth 100000 in
set_option maxHeartbeats 1000000 in
theorem short_120 (w : World)  :
    Calls Tryd.prog 25 #[.int .i64 120] w (Ret1 ⟨13, 0, 0, 0⟩ w) := by
  go_enter Tryd.func25, Tryd.ntmps25
  go_wp2_with (go_at_call 30; refine (op_any _ _ _ _).mono ?_; rintro e w2 ⟨rfl, rfl⟩)
  exact bodyPost_ret (results_cell_row Tryd.results25 _ _ w.heap.size 25 _ (0, 0) _ rfl (((Blk.new w 25 #[.int .i64 13, .int .i64 0, .int .i64 0, .int .i64 0]).alloc _).alloc _) Tryd.underlying25 rfl size25) rfl ⟨rfl, (((Below.refl _ w).alloc (Nat.le_refl _) _).alloc (by simp) _).alloc (by simp; omega) _⟩

set_option maxRecDepth 100000 in
set_option maxHeartbeats 1000000 in
theorem short_121 (w : World)  :
    Calls Tryd.prog 25 #[.int .i64 121] w (Ret1 ⟨14, 4, 0, 0⟩ w) := by
  go_enter Tryd.func25, Tryd.ntmps25
  go_wp2_with (go_at_call 30; refine (op_any _ _ _ _).mono ?_; rintro e w2 ⟨rfl, rfl⟩)
  exact bodyPost_ret (results_cell_row Tryd.results25 _ _ w.heap.size 25 _ (0, 0) _ rfl (((Blk.new w 25 #[.int .i64 14, .int .i64 4, .int .i64 0, .int .i64 0]).alloc _).alloc _) Tryd.underlying25 rfl size25) rfl ⟨rfl, (((Below.refl _ w).alloc (Nat.le_refl _) _).alloc (by simp) _).alloc (by simp; omega) _⟩

set_option maxRecDepth 100000 in
set_option maxHeartbeats 1000000 in
theorem short_122 (w : World)  :
    Calls Tryd.prog 25 #[.int .i64 122] w (Ret1 ⟨14, 6, 0, 0⟩ w) := by
  go_enter Tryd.func25, Tryd.ntmps25
  go_wp2_with (go_at_call 30; refine (op_any _ _ _ _).mono ?_; rintro e w2 ⟨rfl, rfl⟩)
  exact bodyPost_ret (results_cell_row Tryd.results25 _ _ w.heap.size 25 _ (0, 0) _ rfl (((Blk.new w 25 #[.int .i64 14, .int .i64 6, .int .i64 0, .int .i64 0]).alloc _).alloc _) Tryd.underlying25 rfl size25) rfl ⟨rfl, (((Below.refl _ w).alloc (Nat.le_refl _) _).alloc (by simp) _).alloc (by simp; omega) _⟩

set_option maxRecDepth 100000 in
set_option maxHeartbeats 1000000 in
theorem short_123 (w : World)  :
    Calls Tryd.prog 25 #[.int .i64 123] w (Ret1 ⟨14, 2, 0, 0⟩ w) := by
  go_enter Tryd.func25, Tryd.ntmps25
  go_wp2_with (go_at_call 30; refine (op_any _ _ _ _).mono ?_; rintro e w2 ⟨rfl, rfl⟩)
  exact bodyPost_ret (results_cell_row Tryd.results25 _ _ w.heap.size 25 _ (0, 0) _ rfl (((Blk.new w 25 #[.int .i64 14, .int .i64 2, .int .i64 0, .int .i64 0]).alloc _).alloc _) Tryd.underlying25 rfl size25) rfl ⟨rfl, (((Below.refl _ w).alloc (Nat.le_refl _) _).alloc (by simp) _).alloc (by simp; omega) _⟩

set_option maxRecDepth 100000 in
set_option maxHeartbeats 1000000 in
theorem short_124 (w : World)  :
    Calls Tryd.prog 25 #[.int .i64 124] w (Ret1 ⟨15, 0, 0, 0⟩ w) := by
  go_enter Tryd.func25, Tryd.ntmps25
  go_wp2_with (go_at_call 30; refine (op_any _ _ _ _).mono ?_; rintro e w2 ⟨rfl, rfl⟩)
  exact bodyPost_ret (results_cell_row Tryd.results25 _ _ w.heap.size 25 _ (0, 0) _ rfl (((Blk.new w 25 #[.int .i64 15, .int .i64 0, .int .i64 0, .int .i64 0]).alloc _).alloc _) Tryd.underlying25 rfl size25) rfl ⟨rfl, (((Below.refl _ w).alloc (Nat.le_refl _) _).alloc (by simp) _).alloc (by simp; omega) _⟩

set_option maxRecDepth 100000 in
set_option maxHeartbeats 1000000 in
theorem short_125 (w : World)  :
    Calls Tryd.prog 25 #[.int .i64 125] w (Ret1 ⟨16, 0, 0, 0⟩ w) := by
  go_enter Tryd.func25, Tryd.ntmps25
  go_wp2_with (go_at_call 30; refine (op_any _ _ _ _).mono ?_; rintro e w2 ⟨rfl, rfl⟩)
  exact bodyPost_ret (results_cell_row Tryd.results25 _ _ w.heap.size 25 _ (0, 0) _ rfl (((Blk.new w 25 #[.int .i64 16, .int .i64 0, .int .i64 0, .int .i64 0]).alloc _).alloc _) Tryd.underlying25 rfl size25) rfl ⟨rfl, (((Below.refl _ w).alloc (Nat.le_refl _) _).alloc (by simp) _).alloc (by simp; omega) _⟩

set_option maxRecDepth 100000 in
set_option maxHeartbeats 1000000 in
theorem short_g (c : Int) (w : World) (hc : 126 ≤ c ∧ c ≤ 134) :
    Calls Tryd.prog 25 #[.int .i64 c] w (Ret1 ⟨0, 0, 0, 0⟩ w) := by
  go_enter Tryd.func25, Tryd.ntmps25
  go_wp2_with (go_at_call 30; refine (op_any _ _ _ _).mono ?_; rintro e w2 ⟨rfl, rfl⟩)
  exact bodyPost_ret (results_cell_row Tryd.results25 _ _ w.heap.size 25 _ (0, 0) _ rfl (((Blk.new w 25 #[.int .i64 0, .int .i64 0, .int .i64 0, .int .i64 0]).alloc _).alloc _) Tryd.underlying25 rfl size25) rfl ⟨rfl, (((Below.refl _ w).alloc (Nat.le_refl _) _).alloc (by simp) _).alloc (by simp; omega) _⟩

set_option maxRecDepth 100000 in
set_option maxHeartbeats 1000000 in
theorem short_135 (w : World)  :
    Calls Tryd.prog 25 #[.int .i64 135] w (Ret1 ⟨19, 0, 0, 0⟩ w) := by
  go_enter Tryd.func25, Tryd.ntmps25
  go_wp2_with (go_at_call 30; refine (op_any _ _ _ _).mono ?_; rintro e w2 ⟨rfl, rfl⟩)
  exact bodyPost_ret (results_cell_row Tryd.results25 _ _ w.heap.size 25 _ (0, 0) _ rfl (((Blk.new w 25 #[.int .i64 19, .int .i64 0, .int .i64 0, .int .i64 0]).alloc _).alloc _) Tryd.underlying25 rfl size25) rfl ⟨rfl, (((Below.refl _ w).alloc (Nat.le_refl _) _).alloc (by simp) _).alloc (by simp; omega) _⟩

set_option maxRecDepth 100000 in
set_option maxHeartbeats 1000000 in
theorem short_136 (w : World)  :
    Calls Tryd.prog 25 #[.int .i64 136] w (Ret1 ⟨20, 0, 0, 0⟩ w) := by
  go_enter Tryd.func25, Tryd.ntmps25
  go_wp2_with (go_at_call 30; refine (op_any _ _ _ _).mono ?_; rintro e w2 ⟨rfl, rfl⟩)
  exact bodyPost_ret (results_cell_row Tryd.results25 _ _ w.heap.size 25 _ (0, 0) _ rfl (((Blk.new w 25 #[.int .i64 20, .int .i64 0, .int .i64 0, .int .i64 0]).alloc _).alloc _) Tryd.underlying25 rfl size25) rfl ⟨rfl, (((Below.refl _ w).alloc (Nat.le_refl _) _).alloc (by simp) _).alloc (by simp; omega) _⟩

set_option maxRecDepth 100000 in
set_option maxHeartbeats 1000000 in
theorem short_137 (w : World)  :
    Calls Tryd.prog 25 #[.int .i64 137] w (Ret1 ⟨21, 0, 0, 0⟩ w) := by
  go_enter Tryd.func25, Tryd.ntmps25
  go_wp2_with (go_at_call 30; refine (op_any _ _ _ _).mono ?_; rintro e w2 ⟨rfl, rfl⟩)
  exact bodyPost_ret (results_cell_row Tryd.results25 _ _ w.heap.size 25 _ (0, 0) _ rfl (((Blk.new w 25 #[.int .i64 21, .int .i64 0, .int .i64 0, .int .i64 0]).alloc _).alloc _) Tryd.underlying25 rfl size25) rfl ⟨rfl, (((Below.refl _ w).alloc (Nat.le_refl _) _).alloc (by simp) _).alloc (by simp; omega) _⟩

set_option maxRecDepth 100000 in
set_option maxHeartbeats 1000000 in
theorem short_h (c : Int) (w : World) (hc : 138 ≤ c ∧ c ≤ 143) :
    Calls Tryd.prog 25 #[.int .i64 c] w (Ret1 ⟨0, 0, 0, 0⟩ w) := by
  go_enter Tryd.func25, Tryd.ntmps25
  go_wp2_with (go_at_call 30; refine (op_any _ _ _ _).mono ?_; rintro e w2 ⟨rfl, rfl⟩)
  exact bodyPost_ret (results_cell_row Tryd.results25 _ _ w.heap.size 25 _ (0, 0) _ rfl (((Blk.new w 25 #[.int .i64 0, .int .i64 0, .int .i64 0, .int .i64 0]).alloc _).alloc _) Tryd.underlying25 rfl size25) rfl ⟨rfl, (((Below.refl _ w).alloc (Nat.le_refl _) _).alloc (by simp) _).alloc (by simp; omega) _⟩

set_option maxRecDepth 100000 in
set_option maxHeartbeats 1000000 in
theorem short_i (c : Int) (w : World) (hc : 144 ≤ c ∧ c ≤ 151) :
    Calls Tryd.prog 25 #[.int .i64 c] w (Ret1 ⟨22, (c - 143), 0, 0⟩ w) := by
  go_enter Tryd.func25, Tryd.ntmps25
  go_wp2_with (go_at_call 30; refine (op_any _ _ _ _).mono ?_; rintro e w2 ⟨rfl, rfl⟩)
  exact bodyPost_ret (results_cell_row Tryd.results25 _ _ w.heap.size 25 _ (0, 0) _ rfl (((Blk.new w 25 #[.int .i64 22, .int .i64 (c - 143), .int .i64 0, .int .i64 0]).alloc _).alloc _) Tryd.underlying25 rfl size25) rfl ⟨rfl, (((Below.refl _ w).alloc (Nat.le_refl _) _).alloc (by simp) _).alloc (by simp; omega) _⟩

set_option maxRecDepth 100000 in
set_option maxHeartbeats 1000000 in
theorem short_j (c : Int) (w : World) (hc : 152 ≤ c ∧ c ≤ 159) :
    Calls Tryd.prog 25 #[.int .i64 c] w (Ret1 ⟨24, (c - 151), 0, 0⟩ w) := by
  go_enter Tryd.func25, Tryd.ntmps25
  go_wp2_with (go_at_call 30; refine (op_any _ _ _ _).mono ?_; rintro e w2 ⟨rfl, rfl⟩)
  exact bodyPost_ret (results_cell_row Tryd.results25 _ _ w.heap.size 25 _ (0, 0) _ rfl (((Blk.new w 25 #[.int .i64 24, .int .i64 (c - 151), .int .i64 0, .int .i64 0]).alloc _).alloc _) Tryd.underlying25 rfl size25) rfl ⟨rfl, (((Below.refl _ w).alloc (Nat.le_refl _) _).alloc (by simp) _).alloc (by simp; omega) _⟩

set_option maxRecDepth 100000 in
set_option maxHeartbeats 1000000 in
theorem short_k (c : Int) (w : World) (hc : 160 ≤ c ∧ c ≤ 175) :
    Calls Tryd.prog 25 #[.int .i64 c] w (Ret1 ⟨0, 0, 0, 0⟩ w) := by
  go_enter Tryd.func25, Tryd.ntmps25
  go_wp2_with (go_at_call 30; refine (op_any _ _ _ _).mono ?_; rintro e w2 ⟨rfl, rfl⟩)
  exact bodyPost_ret (results_cell_row Tryd.results25 _ _ w.heap.size 25 _ (0, 0) _ rfl (((Blk.new w 25 #[.int .i64 0, .int .i64 0, .int .i64 0, .int .i64 0]).alloc _).alloc _) Tryd.underlying25 rfl size25) rfl ⟨rfl, (((Below.refl _ w).alloc (Nat.le_refl _) _).alloc (by simp) _).alloc (by simp; omega) _⟩

set_option maxRecDepth 100000 in
set_option maxHeartbeats 1000000 in
theorem short_l (c : Int) (w : World) (hc : 176 ≤ c ∧ c ≤ 191) :
    Calls Tryd.prog 25 #[.int .i64 c] w (Ret1 ⟨25, (c - 176), 0, 0⟩ w) := by
  go_enter Tryd.func25, Tryd.ntmps25
  go_wp2_with (go_at_call 30; refine (op_any _ _ _ _).mono ?_; rintro e w2 ⟨rfl, rfl⟩)
  exact bodyPost_ret (results_cell_row Tryd.results25 _ _ w.heap.size 25 _ (0, 0) _ rfl (((Blk.new w 25 #[.int .i64 25, .int .i64 (c - 176), .int .i64 0, .int .i64 0]).alloc _).alloc _) Tryd.underlying25 rfl size25) rfl ⟨rfl, (((Below.refl _ w).alloc (Nat.le_refl _) _).alloc (by simp) _).alloc (by simp; omega) _⟩

set_option maxRecDepth 100000 in
set_option maxHeartbeats 1000000 in
theorem short_m (c : Int) (w : World) (hc : 192 ≤ c ∧ c ≤ 207) :
    Calls Tryd.prog 25 #[.int .i64 c] w (Ret1 ⟨26, (c - 192), 0, 0⟩ w) := by
  go_enter Tryd.func25, Tryd.ntmps25
  go_wp2_with (go_at_call 30; refine (op_any _ _ _ _).mono ?_; rintro e w2 ⟨rfl, rfl⟩)
  exact bodyPost_ret (results_cell_row Tryd.results25 _ _ w.heap.size 25 _ (0, 0) _ rfl (((Blk.new w 25 #[.int .i64 26, .int .i64 (c - 192), .int .i64 0, .int .i64 0]).alloc _).alloc _) Tryd.underlying25 rfl size25) rfl ⟨rfl, (((Below.refl _ w).alloc (Nat.le_refl _) _).alloc (by simp) _).alloc (by simp; omega) _⟩

set_option maxRecDepth 100000 in
set_option maxHeartbeats 1000000 in
theorem short_n (c : Int) (w : World) (hc : 208 ≤ c ∧ c ≤ 255) :
    Calls Tryd.prog 25 #[.int .i64 c] w (Ret1 ⟨17, (c % 16), (c / 16 - 13), 0⟩ w) := by
  go_enter Tryd.func25, Tryd.ntmps25
  go_wp2_with (go_at_call 30; refine (op_any _ _ _ _).mono ?_; rintro e w2 ⟨rfl, rfl⟩)
  exact bodyPost_ret (results_cell_row Tryd.results25 _ _ w.heap.size 25 _ (0, 0) _ rfl (((Blk.new w 25 #[.int .i64 17, .int .i64 (c % 16), .int .i64 (c / 16 - 13), .int .i64 0]).alloc _).alloc _) Tryd.underlying25 rfl size25) rfl ⟨rfl, (((Below.refl _ w).alloc (Nat.le_refl _) _).alloc (by simp) _).alloc (by simp; omega) _⟩

theorem short_any (c : Int) (w : World) (h : 0 ≤ c ∧ c ≤ 255) :
    Calls Tryd.prog 25 #[.int .i64 c] w (Ret1 { (oneM c).1 with l := 0 } w) := by
  have hcs : (0 ≤ c ∧ c ≤ 15) ∨ (16 ≤ c ∧ c ≤ 31) ∨ (32 ≤ c ∧ c ≤ 63) ∨ (64 ≤ c ∧ c ≤ 95) ∨ (96 ≤ c ∧ c ≤ 103) ∨ (104 ≤ c ∧ c ≤ 111) ∨ c = 112 ∨ c = 113 ∨ c = 114 ∨ c = 115 ∨ c = 116 ∨ c = 117 ∨ c = 118 ∨ c = 119 ∨ c = 120 ∨ c = 121 ∨ c = 122 ∨ c = 123 ∨ c = 124 ∨ c = 125 ∨ (126 ≤ c ∧ c ≤ 134) ∨ c = 135 ∨ c = 136 ∨ c = 137 ∨ (138 ≤ c ∧ c ≤ 143) ∨ (144 ≤ c ∧ c ≤ 151) ∨ (152 ≤ c ∧ c ≤ 159) ∨ (160 ≤ c ∧ c ≤ 175) ∨ (176 ≤ c ∧ c ≤ 191) ∨ (192 ≤ c ∧ c ≤ 207) ∨ (208 ≤ c ∧ c ≤ 255) := by omega
  rcases hcs with hc | hc | hc | hc | hc | hc | rfl | rfl | rfl | rfl | rfl | rfl | rfl | rfl | rfl | rfl | rfl | rfl | rfl | rfl | hc | rfl | rfl | rfl | hc | hc | hc | hc | hc | hc | hc
  · refine (short_a c w hc).mono fun e w' hr => Ret1.of hr ?_
    have e1 : (oneM c).1 = ⟨1, c, 0, 1⟩ := by unfold oneM; (repeat (first | rw [if_pos (by omega)] | rw [if_neg (by omega)]))
    rw [e1]
  · refine (short_b c w hc).mono fun e w' hr => Ret1.of hr ?_
    have e1 : (oneM c).1 = ⟨2, (c - 16), 0, 1⟩ := by unfold oneM; (repeat (first | rw [if_pos (by omega)] | rw [if_neg (by omega)]))
    rw [e1]
  · refine (short_c c w hc).mono fun e w' hr => Ret1.of hr ?_
    have e1 : (oneM c).1 = ⟨3, (c - 32), 0, 1⟩ := by unfold oneM; (repeat (first | rw [if_pos (by omega)] | rw [if_neg (by omega)]))
    rw [e1]
  · refine (short_d c w hc).mono fun e w' hr => Ret1.of hr ?_
    have e1 : (oneM c).1 = ⟨4, (c - 64), 0, 1⟩ := by unfold oneM; (repeat (first | rw [if_pos (by omega)] | rw [if_neg (by omega)]))
    rw [e1]
  · refine (short_e c w hc).mono fun e w' hr => Ret1.of hr ?_
    have e1 : (oneM c).1 = ⟨8, (c - 96), 0, 1⟩ := by unfold oneM; (repeat (first | rw [if_pos (by omega)] | rw [if_neg (by omega)]))
    rw [e1]
  · refine (short_f c w hc).mono fun e w' hr => Ret1.of hr ?_
    have e1 : (oneM c).1 = ⟨9, (c - 104), 0, 1⟩ := by unfold oneM; (repeat (first | rw [if_pos (by omega)] | rw [if_neg (by omega)]))
    rw [e1]
  · exact (short_112 w).mono fun e w' hr => Ret1.of hr (by simp [oneM])
  · exact (short_113 w).mono fun e w' hr => Ret1.of hr (by simp [oneM, constM])
  · exact (short_114 w).mono fun e w' hr => Ret1.of hr (by simp [oneM, constM])
  · exact (short_115 w).mono fun e w' hr => Ret1.of hr (by simp [oneM, constM])
  · exact (short_116 w).mono fun e w' hr => Ret1.of hr (by simp [oneM, constM])
  · exact (short_117 w).mono fun e w' hr => Ret1.of hr (by simp [oneM, constM])
  · exact (short_118 w).mono fun e w' hr => Ret1.of hr (by simp [oneM, constM])
  · exact (short_119 w).mono fun e w' hr => Ret1.of hr (by simp [oneM, constM])
  · exact (short_120 w).mono fun e w' hr => Ret1.of hr (by simp [oneM])
  · exact (short_121 w).mono fun e w' hr => Ret1.of hr (by simp [oneM, constM])
  · exact (short_122 w).mono fun e w' hr => Ret1.of hr (by simp [oneM, constM])
  · exact (short_123 w).mono fun e w' hr => Ret1.of hr (by simp [oneM, constM])
  · exact (short_124 w).mono fun e w' hr => Ret1.of hr (by simp [oneM])
  · exact (short_125 w).mono fun e w' hr => Ret1.of hr (by simp [oneM])
  · refine (short_g c w hc).mono fun e w' hr => Ret1.of hr ?_
    have e1 : (oneM c).1 = ⟨0, 0, 0, 1⟩ := by unfold oneM; (repeat (first | rw [if_pos (by omega)] | rw [if_neg (by omega)]))
    rw [e1]
  · exact (short_135 w).mono fun e w' hr => Ret1.of hr (by simp [oneM])
  · exact (short_136 w).mono fun e w' hr => Ret1.of hr (by simp [oneM])
  · exact (short_137 w).mono fun e w' hr => Ret1.of hr (by simp [oneM])
  · refine (short_h c w hc).mono fun e w' hr => Ret1.of hr ?_
    have e1 : (oneM c).1 = ⟨0, 0, 0, 1⟩ := by unfold oneM; (repeat (first | rw [if_pos (by omega)] | rw [if_neg (by omega)]))
    rw [e1]
  · refine (short_i c w hc).mono fun e w' hr => Ret1.of hr ?_
    have e1 : (oneM c).1 = ⟨22, (c - 143), 0, 1⟩ := by unfold oneM; (repeat (first | rw [if_pos (by omega)] | rw [if_neg (by omega)]))
    rw [e1]
  · refine (short_j c w hc).mono fun e w' hr => Ret1.of hr ?_
    have e1 : (oneM c).1 = ⟨24, (c - 151), 0, 1⟩ := by unfold oneM; (repeat (first | rw [if_pos (by omega)] | rw [if_neg (by omega)]))
    rw [e1]
  · refine (short_k c w hc).mono fun e w' hr => Ret1.of hr ?_
    have e1 : (oneM c).1 = ⟨0, 0, 0, 1⟩ := by unfold oneM; (repeat (first | rw [if_pos (by omega)] | rw [if_neg (by omega)]))
    rw [e1]
  · refine (short_l c w hc).mono fun e w' hr => Ret1.of hr ?_
    have e1 : (oneM c).1 = ⟨25, (c - 176), 0, 1⟩ := by unfold oneM; (repeat (first | rw [if_pos (by omega)] | rw [if_neg (by omega)]))
    rw [e1]
  · refine (short_m c w hc).mono fun e w' hr => Ret1.of hr ?_
    have e1 : (oneM c).1 = ⟨26, (c - 192), 0, 1⟩ := by unfold oneM; (repeat (first | rw [if_pos (by omega)] | rw [if_neg (by omega)]))
    rw [e1]
  · refine (short_n c w hc).mono fun e w' hr => Ret1.of hr ?_
    have e1 : (oneM c).1 = ⟨17, (c % 16), ((c - 208) / 16), 1⟩ := by unfold oneM; (repeat (first | rw [if_pos (by omega)] | rw [if_neg (by omega)]))
    have e2 : (c - 208) / 16 = c / 16 - 13 := by omega
    rw [e1, e2]
set_option maxRecDepth 100000 in
set_option maxHeartbeats 1000000 in
theorem wide_128_0 (n m : Int) (w : World) (h : 0 ≤ n ∧ n ≤ 63) :
    Calls Tryd.prog 26 #[.int .i64 128, .int .i64 n, .int .i64 m] w (Ret1 ⟨1, (n % 64), 0, 0⟩ w) := by
  have hq : n / 64 = 0 := by omega
  go_enter Tryd.func26, Tryd.ntmps26
  go_wp2_with (go_at_call 30; refine (op_any _ _ _ _).mono ?_; rintro e w2 ⟨rfl, rfl⟩)
  exact bodyPost_ret (results_cell_row Tryd.results26 _ _ w.heap.size 25 _ (0, 0) _ rfl ((Blk.new w 25 #[.int .i64 1, .int .i64 (n % 64), .int .i64 0, .int .i64 0]).alloc _) Tryd.underlying25 rfl size25) rfl ⟨rfl, ((Below.refl _ w).alloc (Nat.le_refl _) _).alloc (by simp) _⟩

set_option maxRecDepth 100000 in
set_option maxHeartbeats 1000000 in
theorem wide_128_1 (n m : Int) (w : World) (h : 64 ≤ n ∧ n ≤ 127) :
    Calls Tryd.prog 26 #[.int .i64 128, .int .i64 n, .int .i64 m] w (Ret1 ⟨2, (n % 64), 0, 0⟩ w) := by
  have hq : n / 64 = 1 := by omega
  go_enter Tryd.func26, Tryd.ntmps26
  go_wp2_with (go_at_call 30; refine (op_any _ _ _ _).mono ?_; rintro e w2 ⟨rfl, rfl⟩)
  exact bodyPost_ret (results_cell_row Tryd.results26 _ _ w.heap.size 25 _ (0, 0) _ rfl ((Blk.new w 25 #[.int .i64 2, .int .i64 (n % 64), .int .i64 0, .int .i64 0]).alloc _) Tryd.underlying25 rfl size25) rfl ⟨rfl, ((Below.refl _ w).alloc (Nat.le_refl _) _).alloc (by simp) _⟩

set_option maxRecDepth 100000 in
set_option maxHeartbeats 1000000 in
theorem wide_128_2 (n m : Int) (w : World) (h : 128 ≤ n ∧ n ≤ 191) :
    Calls Tryd.prog 26 #[.int .i64 128, .int .i64 n, .int .i64 m] w (Ret1 ⟨3, (n % 64), 0, 0⟩ w) := by
  have hq : n / 64 = 2 := by omega
  go_enter Tryd.func26, Tryd.ntmps26
  go_wp2_with (go_at_call 30; refine (op_any _ _ _ _).mono ?_; rintro e w2 ⟨rfl, rfl⟩)
  exact bodyPost_ret (results_cell_row Tryd.results26 _ _ w.heap.size 25 _ (0, 0) _ rfl ((Blk.new w 25 #[.int .i64 3, .int .i64 (n % 64), .int .i64 0, .int .i64 0]).alloc _) Tryd.underlying25 rfl size25) rfl ⟨rfl, ((Below.refl _ w).alloc (Nat.le_refl _) _).alloc (by simp) _⟩

set_option maxRecDepth 100000 in
set_option maxHeartbeats 1000000 in
theorem wide_128_3 (n m : Int) (w : World) (h : 192 ≤ n ∧ n ≤ 255) :
    Calls Tryd.prog 26 #[.int .i64 128, .int .i64 n, .int .i64 m] w (Ret1 ⟨4, (n % 64), 0, 0⟩ w) := by
  have hq : n / 64 = 3 := by omega
  go_enter Tryd.func26, Tryd.ntmps26
  go_wp2_with (go_at_call 30; refine (op_any _ _ _ _).mono ?_; rintro e w2 ⟨rfl, rfl⟩)
  exact bodyPost_ret (results_cell_row Tryd.results26 _ _ w.heap.size 25 _ (0, 0) _ rfl ((Blk.new w 25 #[.int .i64 4, .int .i64 (n % 64), .int .i64 0, .int .i64 0]).alloc _) Tryd.underlying25 rfl size25) rfl ⟨rfl, ((Below.refl _ w).alloc (Nat.le_refl _) _).alloc (by simp) _⟩

set_option maxRecDepth 100000 in
set_option maxHeartbeats 1000000 in
theorem wide_129_0 (n m : Int) (w : World) (h : 0 ≤ n ∧ n ≤ 63) :
    Calls Tryd.prog 26 #[.int .i64 129, .int .i64 n, .int .i64 m] w (Ret1 ⟨5, (n % 64), 0, 0⟩ w) := by
  have hq : n / 64 = 0 := by omega
  go_enter Tryd.func26, Tryd.ntmps26
  go_wp2_with (go_at_call 30; refine (op_any _ _ _ _).mono ?_; rintro e w2 ⟨rfl, rfl⟩)
  exact bodyPost_ret (results_cell_row Tryd.results26 _ _ w.heap.size 25 _ (0, 0) _ rfl ((Blk.new w 25 #[.int .i64 5, .int .i64 (n % 64), .int .i64 0, .int .i64 0]).alloc _) Tryd.underlying25 rfl size25) rfl ⟨rfl, ((Below.refl _ w).alloc (Nat.le_refl _) _).alloc (by simp) _⟩

set_option maxRecDepth 100000 in
set_option maxHeartbeats 1000000 in
theorem wide_129_1 (n m : Int) (w : World) (h : 64 ≤ n ∧ n ≤ 127) :
    Calls Tryd.prog 26 #[.int .i64 129, .int .i64 n, .int .i64 m] w (Ret1 ⟨6, (n % 64), 0, 0⟩ w) := by
  have hq : n / 64 = 1 := by omega
  go_enter Tryd.func26, Tryd.ntmps26
  go_wp2_with (go_at_call 30; refine (op_any _ _ _ _).mono ?_; rintro e w2 ⟨rfl, rfl⟩)
  exact bodyPost_ret (results_cell_row Tryd.results26 _ _ w.heap.size 25 _ (0, 0) _ rfl ((Blk.new w 25 #[.int .i64 6, .int .i64 (n % 64), .int .i64 0, .int .i64 0]).alloc _) Tryd.underlying25 rfl size25) rfl ⟨rfl, ((Below.refl _ w).alloc (Nat.le_refl _) _).alloc (by simp) _⟩

set_option maxRecDepth 100000 in
set_option maxHeartbeats 1000000 in
theorem wide_129_2 (n m : Int) (w : World) (h : 128 ≤ n ∧ n ≤ 191) :
    Calls Tryd.prog 26 #[.int .i64 129, .int .i64 n, .int .i64 m] w (Ret1 ⟨0, 0, 0, 0⟩ w) := by
  have hq : n / 64 = 2 := by omega
  go_enter Tryd.func26, Tryd.ntmps26
  go_wp2_with (go_at_call 30; refine (op_any _ _ _ _).mono ?_; rintro e w2 ⟨rfl, rfl⟩)
  exact bodyPost_ret (results_cell_row Tryd.results26 _ _ w.heap.size 25 _ (0, 0) _ rfl ((Blk.new w 25 #[.int .i64 0, .int .i64 0, .int .i64 0, .int .i64 0]).alloc _) Tryd.underlying25 rfl size25) rfl ⟨rfl, ((Below.refl _ w).alloc (Nat.le_refl _) _).alloc (by simp) _⟩

set_option maxRecDepth 100000 in
set_option maxHeartbeats 1000000 in
theorem wide_129_3 (n m : Int) (w : World) (h : 192 ≤ n ∧ n ≤ 255) :
    Calls Tryd.prog 26 #[.int .i64 129, .int .i64 n, .int .i64 m] w (Ret1 ⟨7, (n % 64), 0, 0⟩ w) := by
  have hq : n / 64 = 3 := by omega
  go_enter Tryd.func26, Tryd.ntmps26
  go_wp2_with (go_at_call 30; refine (op_any _ _ _ _).mono ?_; rintro e w2 ⟨rfl, rfl⟩)
  exact bodyPost_ret (results_cell_row Tryd.results26 _ _ w.heap.size 25 _ (0, 0) _ rfl ((Blk.new w 25 #[.int .i64 7, .int .i64 (n % 64), .int .i64 0, .int .i64 0]).alloc _) Tryd.underlying25 rfl size25) rfl ⟨rfl, ((Below.refl _ w).alloc (Nat.le_refl _) _).alloc (by simp) _⟩

set_option maxRecDepth 100000 in
set_option maxHeartbeats 1000000 in
theorem wide_130_0 (n m : Int) (w : World) (h : 0 ≤ n ∧ n ≤ 63) :
    Calls Tryd.prog 26 #[.int .i64 130, .int .i64 n, .int .i64 m] w (Ret1 ⟨8, (n % 64), 0, 0⟩ w) := by
  have hq : n / 64 = 0 := by omega
  go_enter Tryd.func26, Tryd.ntmps26
  go_wp2_with (go_at_call 30; refine (op_any _ _ _ _).mono ?_; rintro e w2 ⟨rfl, rfl⟩)
  exact bodyPost_ret (results_cell_row Tryd.results26 _ _ w.heap.size 25 _ (0, 0) _ rfl ((Blk.new w 25 #[.int .i64 8, .int .i64 (n % 64), .int .i64 0, .int .i64 0]).alloc _) Tryd.underlying25 rfl size25) rfl ⟨rfl, ((Below.refl _ w).alloc (Nat.le_refl _) _).alloc (by simp) _⟩

set_option maxRecDepth 100000 in
set_option maxHeartbeats 1000000 in
theorem wide_130_1 (n m : Int) (w : World) (h : 64 ≤ n ∧ n ≤ 127) :
    Calls Tryd.prog 26 #[.int .i64 130, .int .i64 n, .int .i64 m] w (Ret1 ⟨9, (n % 64), 0, 0⟩ w) := by
  have hq : n / 64 = 1 := by omega
  go_enter Tryd.func26, Tryd.ntmps26
  go_wp2_with (go_at_call 30; refine (op_any _ _ _ _).mono ?_; rintro e w2 ⟨rfl, rfl⟩)
  exact bodyPost_ret (results_cell_row Tryd.results26 _ _ w.heap.size 25 _ (0, 0) _ rfl ((Blk.new w 25 #[.int .i64 9, .int .i64 (n % 64), .int .i64 0, .int .i64 0]).alloc _) Tryd.underlying25 rfl size25) rfl ⟨rfl, ((Below.refl _ w).alloc (Nat.le_refl _) _).alloc (by simp) _⟩

set_option maxRecDepth 100000 in
set_option maxHeartbeats 1000000 in
theorem wide_130_2 (n m : Int) (w : World) (h : 128 ≤ n ∧ n ≤ 191) :
    Calls Tryd.prog 26 #[.int .i64 130, .int .i64 n, .int .i64 m] w (Ret1 ⟨0, 0, 0, 0⟩ w) := by
  have hq : n / 64 = 2 := by omega
  go_enter Tryd.func26, Tryd.ntmps26
  go_wp2_with (go_at_call 30; refine (op_any _ _ _ _).mono ?_; rintro e w2 ⟨rfl, rfl⟩)
  exact bodyPost_ret (results_cell_row Tryd.results26 _ _ w.heap.size 25 _ (0, 0) _ rfl ((Blk.new w 25 #[.int .i64 0, .int .i64 0, .int .i64 0, .int .i64 0]).alloc _) Tryd.underlying25 rfl size25) rfl ⟨rfl, ((Below.refl _ w).alloc (Nat.le_refl _) _).alloc (by simp) _⟩

set_option maxRecDepth 100000 in
set_option maxHeartbeats 1000000 in
theorem wide_130_3 (n m : Int) (w : World) (h : 192 ≤ n ∧ n ≤ 255) :
    Calls Tryd.prog 26 #[.int .i64 130, .int .i64 n, .int .i64 m] w (Ret1 ⟨10, (n % 64), 0, 0⟩ w) := by
  have hq : n / 64 = 3 := by omega
  go_enter Tryd.func26, Tryd.ntmps26
  go_wp2_with (go_at_call 30; refine (op_any _ _ _ _).mono ?_; rintro e w2 ⟨rfl, rfl⟩)
  exact bodyPost_ret (results_cell_row Tryd.results26 _ _ w.heap.size 25 _ (0, 0) _ rfl ((Blk.new w 25 #[.int .i64 10, .int .i64 (n % 64), .int .i64 0, .int .i64 0]).alloc _) Tryd.underlying25 rfl size25) rfl ⟨rfl, ((Below.refl _ w).alloc (Nat.le_refl _) _).alloc (by simp) _⟩

set_option maxRecDepth 100000 in
set_option maxHeartbeats 1000000 in
theorem wide_131 (n m : Int) (w : World) (h : 0 ≤ n ∧ n ≤ 255) :
    Calls Tryd.prog 26 #[.int .i64 131, .int .i64 n, .int .i64 m] w (Ret1 ⟨17, (n % 32), (n / 32), 0⟩ w) := by
  go_enter Tryd.func26, Tryd.ntmps26
  go_wp2_with (go_at_call 30; refine (op_any _ _ _ _).mono ?_; rintro e w2 ⟨rfl, rfl⟩)
  exact bodyPost_ret (results_cell_row Tryd.results26 _ _ w.heap.size 25 _ (0, 0) _ rfl ((Blk.new w 25 #[.int .i64 17, .int .i64 (n % 32), .int .i64 (n / 32), .int .i64 0]).alloc _) Tryd.underlying25 rfl size25) rfl ⟨rfl, ((Below.refl _ w).alloc (Nat.le_refl _) _).alloc (by simp) _⟩

set_option maxRecDepth 100000 in
set_option maxHeartbeats 1000000 in
theorem wide_132 (n m : Int) (w : World)  :
    Calls Tryd.prog 26 #[.int .i64 132, .int .i64 n, .int .i64 m] w (Ret1 ⟨17, m, n, 0⟩ w) := by
  go_enter Tryd.func26, Tryd.ntmps26
  go_wp2_with (go_at_call 30; refine (op_any _ _ _ _).mono ?_; rintro e w2 ⟨rfl, rfl⟩)
  exact bodyPost_ret (results_cell_row Tryd.results26 _ _ w.heap.size 25 _ (0, 0) _ rfl ((Blk.new w 25 #[.int .i64 17, .int .i64 m, .int .i64 n, .int .i64 0]).alloc _) Tryd.underlying25 rfl size25) rfl ⟨rfl, ((Below.refl _ w).alloc (Nat.le_refl _) _).alloc (by simp) _⟩

set_option maxRecDepth 100000 in
set_option maxHeartbeats 1000000 in
theorem wide_133 (n m : Int) (w : World) (h : 0 ≤ n ∧ n ≤ 255) :
    Calls Tryd.prog 26 #[.int .i64 133, .int .i64 n, .int .i64 m] w (Ret1 ⟨18, (n % 32), (n / 32), 0⟩ w) := by
  go_enter Tryd.func26, Tryd.ntmps26
  go_wp2_with (go_at_call 30; refine (op_any _ _ _ _).mono ?_; rintro e w2 ⟨rfl, rfl⟩)
  exact bodyPost_ret (results_cell_row Tryd.results26 _ _ w.heap.size 25 _ (0, 0) _ rfl ((Blk.new w 25 #[.int .i64 18, .int .i64 (n % 32), .int .i64 (n / 32), .int .i64 0]).alloc _) Tryd.underlying25 rfl size25) rfl ⟨rfl, ((Below.refl _ w).alloc (Nat.le_refl _) _).alloc (by simp) _⟩

set_option maxRecDepth 100000 in
set_option maxHeartbeats 1000000 in
theorem wide_134 (n m : Int) (w : World)  :
    Calls Tryd.prog 26 #[.int .i64 134, .int .i64 n, .int .i64 m] w (Ret1 ⟨18, m, n, 0⟩ w) := by
  go_enter Tryd.func26, Tryd.ntmps26
  go_wp2_with (go_at_call 30; refine (op_any _ _ _ _).mono ?_; rintro e w2 ⟨rfl, rfl⟩)
  exact bodyPost_ret (results_cell_row Tryd.results26 _ _ w.heap.size 25 _ (0, 0) _ rfl ((Blk.new w 25 #[.int .i64 18, .int .i64 m, .int .i64 n, .int .i64 0]).alloc _) Tryd.underlying25 rfl size25) rfl ⟨rfl, ((Below.refl _ w).alloc (Nat.le_refl _) _).alloc (by simp) _⟩

set_option maxRecDepth 100000 in
set_option maxHeartbeats 1000000 in
theorem wide_160 (n m : Int) (w : World) (h : 0 ≤ n ∧ n ≤ 255) :
    Calls Tryd.prog 26 #[.int .i64 160, .int .i64 n, .int .i64 m] w (Ret1 ⟨22, (-1024 + n), 0, 0⟩ w) := by
  go_enter Tryd.func26, Tryd.ntmps26
  go_wp2_with (go_at_call 30; refine (op_any _ _ _ _).mono ?_; rintro e w2 ⟨rfl, rfl⟩)
  exact bodyPost_ret (results_cell_row Tryd.results26 _ _ w.heap.size 25 _ (0, 0) _ rfl ((Blk.new w 25 #[.int .i64 22, .int .i64 (-1024 + n), .int .i64 0, .int .i64 0]).alloc _) Tryd.underlying25 rfl size25) rfl ⟨rfl, ((Below.refl _ w).alloc (Nat.le_refl _) _).alloc (by simp) _⟩

set_option maxRecDepth 100000 in
set_option maxHeartbeats 1000000 in
theorem wide_161 (n m : Int) (w : World) (h : 0 ≤ n ∧ n ≤ 255) :
    Calls Tryd.prog 26 #[.int .i64 161, .int .i64 n, .int .i64 m] w (Ret1 ⟨22, (-768 + n), 0, 0⟩ w) := by
  go_enter Tryd.func26, Tryd.ntmps26
  go_wp2_with (go_at_call 30; refine (op_any _ _ _ _).mono ?_; rintro e w2 ⟨rfl, rfl⟩)
  exact bodyPost_ret (results_cell_row Tryd.results26 _ _ w.heap.size 25 _ (0, 0) _ rfl ((Blk.new w 25 #[.int .i64 22, .int .i64 (-768 + n), .int .i64 0, .int .i64 0]).alloc _) Tryd.underlying25 rfl size25) rfl ⟨rfl, ((Below.refl _ w).alloc (Nat.le_refl _) _).alloc (by simp) _⟩

set_option maxRecDepth 100000 in
set_option maxHeartbeats 1000000 in
theorem wide_162 (n m : Int) (w : World) (h : 0 ≤ n ∧ n ≤ 255) :
    Calls Tryd.prog 26 #[.int .i64 162, .int .i64 n, .int .i64 m] w (Ret1 ⟨22, (-512 + n), 0, 0⟩ w) := by
  go_enter Tryd.func26, Tryd.ntmps26
  go_wp2_with (go_at_call 30; refine (op_any _ _ _ _).mono ?_; rintro e w2 ⟨rfl, rfl⟩)
  exact bodyPost_ret (results_cell_row Tryd.results26 _ _ w.heap.size 25 _ (0, 0) _ rfl ((Blk.new w 25 #[.int .i64 22, .int .i64 (-512 + n), .int .i64 0, .int .i64 0]).alloc _) Tryd.underlying25 rfl size25) rfl ⟨rfl, ((Below.refl _ w).alloc (Nat.le_refl _) _).alloc (by simp) _⟩

set_option maxRecDepth 100000 in
set_option maxHeartbeats 1000000 in
theorem wide_163 (n m : Int) (w : World) (h : 0 ≤ n ∧ n ≤ 255) :
    Calls Tryd.prog 26 #[.int .i64 163, .int .i64 n, .int .i64 m] w (Ret1 ⟨22, (-256 + n), 0, 0⟩ w) := by
  go_enter Tryd.func26, Tryd.ntmps26
  go_wp2_with (go_at_call 30; refine (op_any _ _ _ _).mono ?_; rintro e w2 ⟨rfl, rfl⟩)
  exact bodyPost_ret (results_cell_row Tryd.results26 _ _ w.heap.size 25 _ (0, 0) _ rfl ((Blk.new w 25 #[.int .i64 22, .int .i64 (-256 + n), .int .i64 0, .int .i64 0]).alloc _) Tryd.underlying25 rfl size25) rfl ⟨rfl, ((Below.refl _ w).alloc (Nat.le_refl _) _).alloc (by simp) _⟩

set_option maxRecDepth 100000 in
set_option maxHeartbeats 1000000 in
theorem wide_164 (n m : Int) (w : World) (h : 0 ≤ n ∧ n ≤ 255) :
    Calls Tryd.prog 26 #[.int .i64 164, .int .i64 n, .int .i64 m] w (Ret1 ⟨22, n, 0, 0⟩ w) := by
  go_enter Tryd.func26, Tryd.ntmps26
  go_wp2_with (go_at_call 30; refine (op_any _ _ _ _).mono ?_; rintro e w2 ⟨rfl, rfl⟩)
  exact bodyPost_ret (results_cell_row Tryd.results26 _ _ w.heap.size 25 _ (0, 0) _ rfl ((Blk.new w 25 #[.int .i64 22, .int .i64 n, .int .i64 0, .int .i64 0]).alloc _) Tryd.underlying25 rfl size25) rfl ⟨rfl, ((Below.refl _ w).alloc (Nat.le_refl _) _).alloc (by simp) _⟩

set_option maxRecDepth 100000 in
set_option maxHeartbeats 1000000 in
theorem wide_165 (n m : Int) (w : World) (h : 0 ≤ n ∧ n ≤ 255) :
    Calls Tryd.prog 26 #[.int .i64 165, .int .i64 n, .int .i64 m] w (Ret1 ⟨22, (256 + n), 0, 0⟩ w) := by
  go_enter Tryd.func26, Tryd.ntmps26
  go_wp2_with (go_at_call 30; refine (op_any _ _ _ _).mono ?_; rintro e w2 ⟨rfl, rfl⟩)
  exact bodyPost_ret (results_cell_row Tryd.results26 _ _ w.heap.size 25 _ (0, 0) _ rfl ((Blk.new w 25 #[.int .i64 22, .int .i64 (256 + n), .int .i64 0, .int .i64 0]).alloc _) Tryd.underlying25 rfl size25) rfl ⟨rfl, ((Below.refl _ w).alloc (Nat.le_refl _) _).alloc (by simp) _⟩

set_option maxRecDepth 100000 in
set_option maxHeartbeats 1000000 in
theorem wide_166 (n m : Int) (w : World) (h : 0 ≤ n ∧ n ≤ 255) :
    Calls Tryd.prog 26 #[.int .i64 166, .int .i64 n, .int .i64 m] w (Ret1 ⟨22, (512 + n), 0, 0⟩ w) := by
  go_enter Tryd.func26, Tryd.ntmps26
  go_wp2_with (go_at_call 30; refine (op_any _ _ _ _).mono ?_; rintro e w2 ⟨rfl, rfl⟩)
  exact bodyPost_ret (results_cell_row Tryd.results26 _ _ w.heap.size 25 _ (0, 0) _ rfl ((Blk.new w 25 #[.int .i64 22, .int .i64 (512 + n), .int .i64 0, .int .i64 0]).alloc _) Tryd.underlying25 rfl size25) rfl ⟨rfl, ((Below.refl _ w).alloc (Nat.le_refl _) _).alloc (by simp) _⟩

set_option maxRecDepth 100000 in
set_option maxHeartbeats 1000000 in
theorem wide_167 (n m : Int) (w : World) (h : 0 ≤ n ∧ n ≤ 255) :
    Calls Tryd.prog 26 #[.int .i64 167, .int .i64 n, .int .i64 m] w (Ret1 ⟨22, (768 + n), 0, 0⟩ w) := by
  go_enter Tryd.func26, Tryd.ntmps26
  go_wp2_with (go_at_call 30; refine (op_any _ _ _ _).mono ?_; rintro e w2 ⟨rfl, rfl⟩)
  exact bodyPost_ret (results_cell_row Tryd.results26 _ _ w.heap.size 25 _ (0, 0) _ rfl ((Blk.new w 25 #[.int .i64 22, .int .i64 (768 + n), .int .i64 0, .int .i64 0]).alloc _) Tryd.underlying25 rfl size25) rfl ⟨rfl, ((Below.refl _ w).alloc (Nat.le_refl _) _).alloc (by simp) _⟩

set_option maxRecDepth 100000 in
set_option maxHeartbeats 1000000 in
theorem wide_168 (n m : Int) (w : World) (h : 0 ≤ n ∧ n ≤ 255) :
    Calls Tryd.prog 26 #[.int .i64 168, .int .i64 n, .int .i64 m] w (Ret1 ⟨23, n, 0, 0⟩ w) := by
  go_enter Tryd.func26, Tryd.ntmps26
  go_wp2_with (go_at_call 30; refine (op_any _ _ _ _).mono ?_; rintro e w2 ⟨rfl, rfl⟩)
  exact bodyPost_ret (results_cell_row Tryd.results26 _ _ w.heap.size 25 _ (0, 0) _ rfl ((Blk.new w 25 #[.int .i64 23, .int .i64 n, .int .i64 0, .int .i64 0]).alloc _) Tryd.underlying25 rfl size25) rfl ⟨rfl, ((Below.refl _ w).alloc (Nat.le_refl _) _).alloc (by simp) _⟩

set_option maxRecDepth 100000 in
set_option maxHeartbeats 1000000 in
theorem wide_169 (n m : Int) (w : World) (h : 0 ≤ n ∧ n ≤ 255) :
    Calls Tryd.prog 26 #[.int .i64 169, .int .i64 n, .int .i64 m] w (Ret1 ⟨23, (256 + n), 0, 0⟩ w) := by
  go_enter Tryd.func26, Tryd.ntmps26
  go_wp2_with (go_at_call 30; refine (op_any _ _ _ _).mono ?_; rintro e w2 ⟨rfl, rfl⟩)
  exact bodyPost_ret (results_cell_row Tryd.results26 _ _ w.heap.size 25 _ (0, 0) _ rfl ((Blk.new w 25 #[.int .i64 23, .int .i64 (256 + n), .int .i64 0, .int .i64 0]).alloc _) Tryd.underlying25 rfl size25) rfl ⟨rfl, ((Below.refl _ w).alloc (Nat.le_refl _) _).alloc (by simp) _⟩

set_option maxRecDepth 100000 in
set_option maxHeartbeats 1000000 in
theorem wide_170 (n m : Int) (w : World) (h : 0 ≤ n ∧ n ≤ 255) :
    Calls Tryd.prog 26 #[.int .i64 170, .int .i64 n, .int .i64 m] w (Ret1 ⟨23, (512 + n), 0, 0⟩ w) := by
  go_enter Tryd.func26, Tryd.ntmps26
  go_wp2_with (go_at_call 30; refine (op_any _ _ _ _).mono ?_; rintro e w2 ⟨rfl, rfl⟩)
  exact bodyPost_ret (results_cell_row Tryd.results26 _ _ w.heap.size 25 _ (0, 0) _ rfl ((Blk.new w 25 #[.int .i64 23, .int .i64 (512 + n), .int .i64 0, .int .i64 0]).alloc _) Tryd.underlying25 rfl size25) rfl ⟨rfl, ((Below.refl _ w).alloc (Nat.le_refl _) _).alloc (by simp) _⟩

set_option maxRecDepth 100000 in
set_option maxHeartbeats 1000000 in
theorem wide_171 (n m : Int) (w : World) (h : 0 ≤ n ∧ n ≤ 255) :
    Calls Tryd.prog 26 #[.int .i64 171, .int .i64 n, .int .i64 m] w (Ret1 ⟨23, (768 + n), 0, 0⟩ w) := by
  go_enter Tryd.func26, Tryd.ntmps26
  go_wp2_with (go_at_call 30; refine (op_any _ _ _ _).mono ?_; rintro e w2 ⟨rfl, rfl⟩)
  exact bodyPost_ret (results_cell_row Tryd.results26 _ _ w.heap.size 25 _ (0, 0) _ rfl ((Blk.new w 25 #[.int .i64 23, .int .i64 (768 + n), .int .i64 0, .int .i64 0]).alloc _) Tryd.underlying25 rfl size25) rfl ⟨rfl, ((Below.refl _ w).alloc (Nat.le_refl _) _).alloc (by simp) _⟩

set_option maxRecDepth 100000 in
set_option maxHeartbeats 1000000 in
theorem wide_172 (n m : Int) (w : World) (h : 0 ≤ n ∧ n ≤ 255) :
    Calls Tryd.prog 26 #[.int .i64 172, .int .i64 n, .int .i64 m] w (Ret1 ⟨24, n, 0, 0⟩ w) := by
  go_enter Tryd.func26, Tryd.ntmps26
  go_wp2_with (go_at_call 30; refine (op_any _ _ _ _).mono ?_; rintro e w2 ⟨rfl, rfl⟩)
  exact bodyPost_ret (results_cell_row Tryd.results26 _ _ w.heap.size 25 _ (0, 0) _ rfl ((Blk.new w 25 #[.int .i64 24, .int .i64 n, .int .i64 0, .int .i64 0]).alloc _) Tryd.underlying25 rfl size25) rfl ⟨rfl, ((Below.refl _ w).alloc (Nat.le_refl _) _).alloc (by simp) _⟩

set_option maxRecDepth 100000 in
set_option maxHeartbeats 1000000 in
theorem wide_173 (n m : Int) (w : World) (h : 0 ≤ n ∧ n ≤ 255) :
    Calls Tryd.prog 26 #[.int .i64 173, .int .i64 n, .int .i64 m] w (Ret1 ⟨24, (256 + n), 0, 0⟩ w) := by
  go_enter Tryd.func26, Tryd.ntmps26
  go_wp2_with (go_at_call 30; refine (op_any _ _ _ _).mono ?_; rintro e w2 ⟨rfl, rfl⟩)
  exact bodyPost_ret (results_cell_row Tryd.results26 _ _ w.heap.size 25 _ (0, 0) _ rfl ((Blk.new w 25 #[.int .i64 24, .int .i64 (256 + n), .int .i64 0, .int .i64 0]).alloc _) Tryd.underlying25 rfl size25) rfl ⟨rfl, ((Below.refl _ w).alloc (Nat.le_refl _) _).alloc (by simp) _⟩

set_option maxRecDepth 100000 in
set_option maxHeartbeats 1000000 in
theorem wide_174 (n m : Int) (w : World) (h : 0 ≤ n ∧ n ≤ 255) :
    Calls Tryd.prog 26 #[.int .i64 174, .int .i64 n, .int .i64 m] w (Ret1 ⟨24, (512 + n), 0, 0⟩ w) := by
  go_enter Tryd.func26, Tryd.ntmps26
  go_wp2_with (go_at_call 30; refine (op_any _ _ _ _).mono ?_; rintro e w2 ⟨rfl, rfl⟩)
  exact bodyPost_ret (results_cell_row Tryd.results26 _ _ w.heap.size 25 _ (0, 0) _ rfl ((Blk.new w 25 #[.int .i64 24, .int .i64 (512 + n), .int .i64 0, .int .i64 0]).alloc _) Tryd.underlying25 rfl size25) rfl ⟨rfl, ((Below.refl _ w).alloc (Nat.le_refl _) _).alloc (by simp) _⟩

set_option maxRecDepth 100000 in
set_option maxHeartbeats 1000000 in
theorem wide_175 (n m : Int) (w : World) (h : 0 ≤ n ∧ n ≤ 255) :
    Calls Tryd.prog 26 #[.int .i64 175, .int .i64 n, .int .i64 m] w (Ret1 ⟨24, (768 + n), 0, 0⟩ w) := by
  go_enter Tryd.func26, Tryd.ntmps26
  go_wp2_with (go_at_call 30; refine (op_any _ _ _ _).mono ?_; rintro e w2 ⟨rfl, rfl⟩)
  exact bodyPost_ret (results_cell_row Tryd.results26 _ _ w.heap.size 25 _ (0, 0) _ rfl ((Blk.new w 25 #[.int .i64 24, .int .i64 (768 + n), .int .i64 0, .int .i64 0]).alloc _) Tryd.underlying25 rfl size25) rfl ⟨rfl, ((Below.refl _ w).alloc (Nat.le_refl _) _).alloc (by simp) _⟩

theorem wide_any (c n m : Int) (w : World) (hc : longC c) (h : 0 ≤ n ∧ n ≤ 255) :
    Calls Tryd.prog 26 #[.int .i64 c, .int .i64 n, .int .i64 m] w (Ret1 { moreM c n m with l := 0 } w) := by
  have hcs : c = 128 ∨ c = 129 ∨ c = 130 ∨ c = 131 ∨ c = 132 ∨ c = 133 ∨ c = 134 ∨ c = 160 ∨ c = 161 ∨ c = 162 ∨ c = 163 ∨ c = 164 ∨ c = 165 ∨ c = 166 ∨ c = 167 ∨ c = 168 ∨ c = 169 ∨ c = 170 ∨ c = 171 ∨ c = 172 ∨ c = 173 ∨ c = 174 ∨ c = 175 := by
    rcases hc with hc | hc <;> omega
  have hn : (0 ≤ n ∧ n ≤ 63) ∨ (64 ≤ n ∧ n ≤ 127) ∨ (128 ≤ n ∧ n ≤ 191) ∨ (192 ≤ n ∧ n ≤ 255) := by omega
  rcases hcs with rfl | rfl | rfl | rfl | rfl | rfl | rfl | rfl | rfl | rfl | rfl | rfl | rfl | rfl | rfl | rfl | rfl | rfl | rfl | rfl | rfl | rfl | rfl
  · rcases hn with h1 | h1 | h1 | h1
    · refine (wide_128_0 n m w h1).mono fun e w' hr => Ret1.of hr ?_
      have hq : n / 64 = 0 := by omega
      simp [moreM, storeK, hq]
    · refine (wide_128_1 n m w h1).mono fun e w' hr => Ret1.of hr ?_
      have hq : n / 64 = 1 := by omega
      simp [moreM, storeK, hq]
    · refine (wide_128_2 n m w h1).mono fun e w' hr => Ret1.of hr ?_
      have hq : n / 64 = 2 := by omega
      simp [moreM, storeK, hq]
    · refine (wide_128_3 n m w h1).mono fun e w' hr => Ret1.of hr ?_
      have hq : n / 64 = 3 := by omega
      simp [moreM, storeK, hq]
  · rcases hn with h1 | h1 | h1 | h1
    · refine (wide_129_0 n m w h1).mono fun e w' hr => Ret1.of hr ?_
      have hq : n / 64 = 0 := by omega
      simp [moreM, storeK, hq]
    · refine (wide_129_1 n m w h1).mono fun e w' hr => Ret1.of hr ?_
      have hq : n / 64 = 1 := by omega
      simp [moreM, storeK, hq]
    · refine (wide_129_2 n m w h1).mono fun e w' hr => Ret1.of hr ?_
      have hq : n / 64 = 2 := by omega
      simp [moreM, storeK, hq]
    · refine (wide_129_3 n m w h1).mono fun e w' hr => Ret1.of hr ?_
      have hq : n / 64 = 3 := by omega
      simp [moreM, storeK, hq]
  · rcases hn with h1 | h1 | h1 | h1
    · refine (wide_130_0 n m w h1).mono fun e w' hr => Ret1.of hr ?_
      have hq : n / 64 = 0 := by omega
      simp [moreM, storeK, hq]
    · refine (wide_130_1 n m w h1).mono fun e w' hr => Ret1.of hr ?_
      have hq : n / 64 = 1 := by omega
      simp [moreM, storeK, hq]
    · refine (wide_130_2 n m w h1).mono fun e w' hr => Ret1.of hr ?_
      have hq : n / 64 = 2 := by omega
      simp [moreM, storeK, hq]
    · refine (wide_130_3 n m w h1).mono fun e w' hr => Ret1.of hr ?_
      have hq : n / 64 = 3 := by omega
      simp [moreM, storeK, hq]
  · exact (wide_131 n m w h).mono fun e w' hr => Ret1.of hr (by simp [moreM])
  · exact (wide_132 n m w).mono fun e w' hr => Ret1.of hr (by simp [moreM])
  · exact (wide_133 n m w h).mono fun e w' hr => Ret1.of hr (by simp [moreM])
  · exact (wide_134 n m w).mono fun e w' hr => Ret1.of hr (by simp [moreM])
  · exact (wide_160 n m w h).mono fun e w' hr => Ret1.of hr (by simp [moreM])
  · exact (wide_161 n m w h).mono fun e w' hr => Ret1.of hr (by simp [moreM])
  · exact (wide_162 n m w h).mono fun e w' hr => Ret1.of hr (by simp [moreM])
  · exact (wide_163 n m w h).mono fun e w' hr => Ret1.of hr (by simp [moreM])
  · exact (wide_164 n m w h).mono fun e w' hr => Ret1.of hr (by simp [moreM])
  · exact (wide_165 n m w h).mono fun e w' hr => Ret1.of hr (by simp [moreM])
  · exact (wide_166 n m w h).mono fun e w' hr => Ret1.of hr (by simp [moreM])
  · exact (wide_167 n m w h).mono fun e w' hr => Ret1.of hr (by simp [moreM])
  · exact (wide_168 n m w h).mono fun e w' hr => Ret1.of hr (by simp [moreM])
  · exact (wide_169 n m w h).mono fun e w' hr => Ret1.of hr (by simp [moreM])
  · exact (wide_170 n m w h).mono fun e w' hr => Ret1.of hr (by simp [moreM])
  · exact (wide_171 n m w h).mono fun e w' hr => Ret1.of hr (by simp [moreM])
  · exact (wide_172 n m w h).mono fun e w' hr => Ret1.of hr (by simp [moreM])
  · exact (wide_173 n m w h).mono fun e w' hr => Ret1.of hr (by simp [moreM])
  · exact (wide_174 n m w h).mono fun e w' hr => Ret1.of hr (by simp [moreM])
  · exact (wide_175 n m w h).mono fun e w' hr => Ret1.of hr (by simp [moreM])
end Go.Proofs.YtdbignfpmpohiaaDoor
