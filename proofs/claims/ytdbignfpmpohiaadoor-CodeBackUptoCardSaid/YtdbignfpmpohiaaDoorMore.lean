/-
  The contracts of code.more, and of websterref12.op and wide.
-/
import Derived.Test.YtdbignfpmpohiaaDoorOne
namespace Go.Proofs.YtdbignfpmpohiaaDoor
open Go.RowKit

def storeK (c q : Int) : Int :=
  if c = 128 then 1 + q else if c = 129 then (if q = 3 then 7 else if q = 2 then 0 else 5 + q) else (if q = 3 then 10 else if q = 2 then 0 else 8 + q)
/-- by two bytes, or three -/
def moreM (c n m : Int) : O4 :=
  if c < 131 then (if storeK c (n / 64) = 0 then ⟨0, 0, 0, 2⟩ else ⟨storeK c (n / 64), n % 64, 0, 2⟩)
  else if c = 131 then ⟨17, n % 32, n / 32, 2⟩
  else if c = 132 then ⟨17, m, n, 3⟩
  else if c = 133 then ⟨18, n % 32, n / 32, 2⟩
  else if c = 134 then ⟨18, m, n, 3⟩
  else if c < 168 then ⟨22, 256 * (c - 164) + n, 0, 2⟩
  else if c < 172 then ⟨23, 256 * (c - 168) + n, 0, 2⟩
  else ⟨24, 256 * (c - 172) + n, 0, 2⟩

/-- what a function leaves that returns something to do -/
def Ret1 (r : O4) (w : World) (e : Ending) (w' : World) : Prop :=
  e = .returned (.agg #[.int .i64 r.k, .int .i64 r.n, .int .i64 r.m, .int .i64 r.l]) ∧ Below w.heap.size w w'

theorem Ret1.of {r r' : O4} {w : World} {e : Ending} {w' : World} (h : Ret1 r w e w') (hr : r = r') : Ret1 r' w e w' := by subst hr; exact h

/-- which first bytes have more behind them -/
def longC (c : Int) : Prop := (128 ≤ c ∧ c ≤ 134) ∨ (160 ≤ c ∧ c ≤ 175)

theorem op_any (k n m : Int) (w : World) :
    Calls Tryd.prog 30 #[.int .i64 k, .int .i64 n, .int .i64 m] w fun e w' => e = .returned (.agg #[.int .i64 k, .int .i64 n, .int .i64 m, .int .i64 0]) ∧ w.alloc (.cells #[.int .i64 k, .int .i64 n, .int .i64 m, .int .i64 0] 25) = w' := by
  go_enter Tryd.func30, Tryd.ntmps30
  go_wp2
  exact bodyPost_ret (results_cell_row Tryd.results30 _ _ w.heap.size 25 _ (0, 0) _ rfl (Blk.new w 25 _) Tryd.underlying25 rfl size25) rfl ⟨rfl, rfl⟩

set_option maxRecDepth 100000 in
set_option maxHeartbeats 1000000 in
theorem more_128_0 (n m : Int) (w : World) (ht : Tabs w) (h : 0 ≤ n ∧ n ≤ 63) :
    Calls Tryd.prog 23 #[.int .i64 128, .int .i64 n, .int .i64 m] w (Ret1 ⟨1, (n % 64), 0, 2⟩ w) := by
  have hq : n / 64 = 0 := by omega
  have c0 : ∀ o1 o2, ((w.alloc o1).alloc o2).cell? ⟨1, 0, none⟩ = some (.int .i64 1) := fun o1 o2 => ((ht.alloc o1).alloc o2).store 0 (.int .i64 1) rfl
  go_enter Tryd.func23, Tryd.ntmps23
  go_wp2
  exact bodyPost_ret (results_cell_row Tryd.results23 _ _ w.heap.size 25 _ (0, 0) _ rfl ((Blk.new w 25 #[.int .i64 1, .int .i64 (n % 64), .int .i64 0, .int .i64 2]).alloc _) Tryd.underlying25 rfl size25) rfl ⟨rfl, ((Below.refl _ w).alloc (Nat.le_refl _) _).alloc (by simp) _⟩

set_option maxRecDepth 100000 in
set_option maxHeartbeats 1000000 in
theorem more_128_1 (n m : Int) (w : World) (ht : Tabs w) (h : 64 ≤ n ∧ n ≤ 127) :
    Calls Tryd.prog 23 #[.int .i64 128, .int .i64 n, .int .i64 m] w (Ret1 ⟨2, (n % 64), 0, 2⟩ w) := by
  have hq : n / 64 = 1 := by omega
  have c0 : ∀ o1 o2, ((w.alloc o1).alloc o2).cell? ⟨1, 1, none⟩ = some (.int .i64 2) := fun o1 o2 => ((ht.alloc o1).alloc o2).store 1 (.int .i64 2) rfl
  go_enter Tryd.func23, Tryd.ntmps23
  go_wp2
  exact bodyPost_ret (results_cell_row Tryd.results23 _ _ w.heap.size 25 _ (0, 0) _ rfl ((Blk.new w 25 #[.int .i64 2, .int .i64 (n % 64), .int .i64 0, .int .i64 2]).alloc _) Tryd.underlying25 rfl size25) rfl ⟨rfl, ((Below.refl _ w).alloc (Nat.le_refl _) _).alloc (by simp) _⟩

set_option maxRecDepth 100000 in
set_option maxHeartbeats 1000000 in
theorem more_128_2 (n m : Int) (w : World) (ht : Tabs w) (h : 128 ≤ n ∧ n ≤ 191) :
    Calls Tryd.prog 23 #[.int .i64 128, .int .i64 n, .int .i64 m] w (Ret1 ⟨3, (n % 64), 0, 2⟩ w) := by
  have hq : n / 64 = 2 := by omega
  have c0 : ∀ o1 o2, ((w.alloc o1).alloc o2).cell? ⟨1, 2, none⟩ = some (.int .i64 3) := fun o1 o2 => ((ht.alloc o1).alloc o2).store 2 (.int .i64 3) rfl
  go_enter Tryd.func23, Tryd.ntmps23
  go_wp2
  exact bodyPost_ret (results_cell_row Tryd.results23 _ _ w.heap.size 25 _ (0, 0) _ rfl ((Blk.new w 25 #[.int .i64 3, .int .i64 (n % 64), .int .i64 0, .int .i64 2]).alloc _) Tryd.underlying25 rfl size25) rfl ⟨rfl, ((Below.refl _ w).alloc (Nat.le_refl _) _).alloc (by simp) _⟩

set_option maxRecDepth 100000 in
set_option maxHeartbeats 1000000 in
theorem more_128_3 (n m : Int) (w : World) (ht : Tabs w) (h : 192 ≤ n ∧ n ≤ 255) :
    Calls Tryd.prog 23 #[.int .i64 128, .int .i64 n, .int .i64 m] w (Ret1 ⟨4, (n % 64), 0, 2⟩ w) := by
  have hq : n / 64 = 3 := by omega
  have c0 : ∀ o1 o2, ((w.alloc o1).alloc o2).cell? ⟨1, 3, none⟩ = some (.int .i64 4) := fun o1 o2 => ((ht.alloc o1).alloc o2).store 3 (.int .i64 4) rfl
  go_enter Tryd.func23, Tryd.ntmps23
  go_wp2
  exact bodyPost_ret (results_cell_row Tryd.results23 _ _ w.heap.size 25 _ (0, 0) _ rfl ((Blk.new w 25 #[.int .i64 4, .int .i64 (n % 64), .int .i64 0, .int .i64 2]).alloc _) Tryd.underlying25 rfl size25) rfl ⟨rfl, ((Below.refl _ w).alloc (Nat.le_refl _) _).alloc (by simp) _⟩

set_option maxRecDepth 100000 in
set_option maxHeartbeats 1000000 in
theorem more_129_0 (n m : Int) (w : World) (ht : Tabs w) (h : 0 ≤ n ∧ n ≤ 63) :
    Calls Tryd.prog 23 #[.int .i64 129, .int .i64 n, .int .i64 m] w (Ret1 ⟨5, (n % 64), 0, 2⟩ w) := by
  have hq : n / 64 = 0 := by omega
  have c0 : ∀ o1 o2, ((w.alloc o1).alloc o2).cell? ⟨1, 4, none⟩ = some (.int .i64 5) := fun o1 o2 => ((ht.alloc o1).alloc o2).store 4 (.int .i64 5) rfl
  go_enter Tryd.func23, Tryd.ntmps23
  go_wp2
  exact bodyPost_ret (results_cell_row Tryd.results23 _ _ w.heap.size 25 _ (0, 0) _ rfl ((Blk.new w 25 #[.int .i64 5, .int .i64 (n % 64), .int .i64 0, .int .i64 2]).alloc _) Tryd.underlying25 rfl size25) rfl ⟨rfl, ((Below.refl _ w).alloc (Nat.le_refl _) _).alloc (by simp) _⟩

set_option maxRecDepth 100000 in
set_option maxHeartbeats 1000000 in
theorem more_129_1 (n m : Int) (w : World) (ht : Tabs w) (h : 64 ≤ n ∧ n ≤ 127) :
    Calls Tryd.prog 23 #[.int .i64 129, .int .i64 n, .int .i64 m] w (Ret1 ⟨6, (n % 64), 0, 2⟩ w) := by
  have hq : n / 64 = 1 := by omega
  have c0 : ∀ o1 o2, ((w.alloc o1).alloc o2).cell? ⟨1, 5, none⟩ = some (.int .i64 6) := fun o1 o2 => ((ht.alloc o1).alloc o2).store 5 (.int .i64 6) rfl
  go_enter Tryd.func23, Tryd.ntmps23
  go_wp2
  exact bodyPost_ret (results_cell_row Tryd.results23 _ _ w.heap.size 25 _ (0, 0) _ rfl ((Blk.new w 25 #[.int .i64 6, .int .i64 (n % 64), .int .i64 0, .int .i64 2]).alloc _) Tryd.underlying25 rfl size25) rfl ⟨rfl, ((Below.refl _ w).alloc (Nat.le_refl _) _).alloc (by simp) _⟩

set_option maxRecDepth 100000 in
set_option maxHeartbeats 1000000 in
theorem more_129_2 (n m : Int) (w : World) (ht : Tabs w) (h : 128 ≤ n ∧ n ≤ 191) :
    Calls Tryd.prog 23 #[.int .i64 129, .int .i64 n, .int .i64 m] w (Ret1 ⟨0, 0, 0, 2⟩ w) := by
  have hq : n / 64 = 2 := by omega
  have c0 : ∀ o1 o2, ((w.alloc o1).alloc o2).cell? ⟨1, 6, none⟩ = some (.int .i64 0) := fun o1 o2 => ((ht.alloc o1).alloc o2).store 6 (.int .i64 0) rfl
  go_enter Tryd.func23, Tryd.ntmps23
  go_wp2
  exact bodyPost_ret (results_cell_row Tryd.results23 _ _ w.heap.size 25 _ (0, 0) _ rfl ((Blk.new w 25 #[.int .i64 0, .int .i64 0, .int .i64 0, .int .i64 2]).alloc _) Tryd.underlying25 rfl size25) rfl ⟨rfl, ((Below.refl _ w).alloc (Nat.le_refl _) _).alloc (by simp) _⟩

set_option maxRecDepth 100000 in
set_option maxHeartbeats 1000000 in
theorem more_129_3 (n m : Int) (w : World) (ht : Tabs w) (h : 192 ≤ n ∧ n ≤ 255) :
    Calls Tryd.prog 23 #[.int .i64 129, .int .i64 n, .int .i64 m] w (Ret1 ⟨7, (n % 64), 0, 2⟩ w) := by
  have hq : n / 64 = 3 := by omega
  have c0 : ∀ o1 o2, ((w.alloc o1).alloc o2).cell? ⟨1, 7, none⟩ = some (.int .i64 7) := fun o1 o2 => ((ht.alloc o1).alloc o2).store 7 (.int .i64 7) rfl
  go_enter Tryd.func23, Tryd.ntmps23
  go_wp2
  exact bodyPost_ret (results_cell_row Tryd.results23 _ _ w.heap.size 25 _ (0, 0) _ rfl ((Blk.new w 25 #[.int .i64 7, .int .i64 (n % 64), .int .i64 0, .int .i64 2]).alloc _) Tryd.underlying25 rfl size25) rfl ⟨rfl, ((Below.refl _ w).alloc (Nat.le_refl _) _).alloc (by simp) _⟩

set_option maxRecDepth 100000 in
set_option maxHeartbeats 1000000 in
theorem more_130_0 (n m : Int) (w : World) (ht : Tabs w) (h : 0 ≤ n ∧ n ≤ 63) :
    Calls Tryd.prog 23 #[.int .i64 130, .int .i64 n, .int .i64 m] w (Ret1 ⟨8, (n % 64), 0, 2⟩ w) := by
  have hq : n / 64 = 0 := by omega
  have c0 : ∀ o1 o2, ((w.alloc o1).alloc o2).cell? ⟨1, 8, none⟩ = some (.int .i64 8) := fun o1 o2 => ((ht.alloc o1).alloc o2).store 8 (.int .i64 8) rfl
  go_enter Tryd.func23, Tryd.ntmps23
  go_wp2
  exact bodyPost_ret (results_cell_row Tryd.results23 _ _ w.heap.size 25 _ (0, 0) _ rfl ((Blk.new w 25 #[.int .i64 8, .int .i64 (n % 64), .int .i64 0, .int .i64 2]).alloc _) Tryd.underlying25 rfl size25) rfl ⟨rfl, ((Below.refl _ w).alloc (Nat.le_refl _) _).alloc (by simp) _⟩

set_option maxRecDepth 100000 in
set_option maxHeartbeats 1000000 in
theorem more_130_1 (n m : Int) (w : World) (ht : Tabs w) (h : 64 ≤ n ∧ n ≤ 127) :
    Calls Tryd.prog 23 #[.int .i64 130, .int .i64 n, .int .i64 m] w (Ret1 ⟨9, (n % 64), 0, 2⟩ w) := by
  have hq : n / 64 = 1 := by omega
  have c0 : ∀ o1 o2, ((w.alloc o1).alloc o2).cell? ⟨1, 9, none⟩ = some (.int .i64 9) := fun o1 o2 => ((ht.alloc o1).alloc o2).store 9 (.int .i64 9) rfl
  go_enter Tryd.func23, Tryd.ntmps23
  go_wp2
  exact bodyPost_ret (results_cell_row Tryd.results23 _ _ w.heap.size 25 _ (0, 0) _ rfl ((Blk.new w 25 #[.int .i64 9, .int .i64 (n % 64), .int .i64 0, .int .i64 2]).alloc _) Tryd.underlying25 rfl size25) rfl ⟨rfl, ((Below.refl _ w).alloc (Nat.le_refl _) _).alloc (by simp) _⟩

set_option maxRecDepth 100000 in
set_option maxHeartbeats 1000000 in
theorem more_130_2 (n m : Int) (w : World) (ht : Tabs w) (h : 128 ≤ n ∧ n ≤ 191) :
    Calls Tryd.prog 23 #[.int .i64 130, .int .i64 n, .int .i64 m] w (Ret1 ⟨0, 0, 0, 2⟩ w) := by
  have hq : n / 64 = 2 := by omega
  have c0 : ∀ o1 o2, ((w.alloc o1).alloc o2).cell? ⟨1, 10, none⟩ = some (.int .i64 0) := fun o1 o2 => ((ht.alloc o1).alloc o2).store 10 (.int .i64 0) rfl
  go_enter Tryd.func23, Tryd.ntmps23
  go_wp2
  exact bodyPost_ret (results_cell_row Tryd.results23 _ _ w.heap.size 25 _ (0, 0) _ rfl ((Blk.new w 25 #[.int .i64 0, .int .i64 0, .int .i64 0, .int .i64 2]).alloc _) Tryd.underlying25 rfl size25) rfl ⟨rfl, ((Below.refl _ w).alloc (Nat.le_refl _) _).alloc (by simp) _⟩

set_option maxRecDepth 100000 in
set_option maxHeartbeats 1000000 in
theorem more_130_3 (n m : Int) (w : World) (ht : Tabs w) (h : 192 ≤ n ∧ n ≤ 255) :
    Calls Tryd.prog 23 #[.int .i64 130, .int .i64 n, .int .i64 m] w (Ret1 ⟨10, (n % 64), 0, 2⟩ w) := by
  have hq : n / 64 = 3 := by omega
  have c0 : ∀ o1 o2, ((w.alloc o1).alloc o2).cell? ⟨1, 11, none⟩ = some (.int .i64 10) := fun o1 o2 => ((ht.alloc o1).alloc o2).store 11 (.int .i64 10) rfl
  go_enter Tryd.func23, Tryd.ntmps23
  go_wp2
  exact bodyPost_ret (results_cell_row Tryd.results23 _ _ w.heap.size 25 _ (0, 0) _ rfl ((Blk.new w 25 #[.int .i64 10, .int .i64 (n % 64), .int .i64 0, .int .i64 2]).alloc _) Tryd.underlying25 rfl size25) rfl ⟨rfl, ((Below.refl _ w).alloc (Nat.le_refl _) _).alloc (by simp) _⟩

set_option maxRecDepth 100000 in
set_option maxHeartbeats 1000000 in
theorem more_131 (n m : Int) (w : World) (h : 0 ≤ n ∧ n ≤ 255) :
    Calls Tryd.prog 23 #[.int .i64 131, .int .i64 n, .int .i64 m] w (Ret1 ⟨17, (n % 32), (n / 32), 2⟩ w) := by
  go_enter Tryd.func23, Tryd.ntmps23
  go_wp2
  exact bodyPost_ret (results_cell_row Tryd.results23 _ _ w.heap.size 25 _ (0, 0) _ rfl ((Blk.new w 25 #[.int .i64 17, .int .i64 (n % 32), .int .i64 (n / 32), .int .i64 2]).alloc _) Tryd.underlying25 rfl size25) rfl ⟨rfl, ((Below.refl _ w).alloc (Nat.le_refl _) _).alloc (by simp) _⟩

set_option maxRecDepth 100000 in
set_option maxHeartbeats 1000000 in
theorem more_132 (n m : Int) (w : World)  :
    Calls Tryd.prog 23 #[.int .i64 132, .int .i64 n, .int .i64 m] w (Ret1 ⟨17, m, n, 3⟩ w) := by
  go_enter Tryd.func23, Tryd.ntmps23
  go_wp2
  exact bodyPost_ret (results_cell_row Tryd.results23 _ _ w.heap.size 25 _ (0, 0) _ rfl ((Blk.new w 25 #[.int .i64 17, .int .i64 m, .int .i64 n, .int .i64 3]).alloc _) Tryd.underlying25 rfl size25) rfl ⟨rfl, ((Below.refl _ w).alloc (Nat.le_refl _) _).alloc (by simp) _⟩

set_option maxRecDepth 100000 in
set_option maxHeartbeats 1000000 in
theorem more_133 (n m : Int) (w : World) (h : 0 ≤ n ∧ n ≤ 255) :
    Calls Tryd.prog 23 #[.int .i64 133, .int .i64 n, .int .i64 m] w (Ret1 ⟨18, (n % 32), (n / 32), 2⟩ w) := by
  go_enter Tryd.func23, Tryd.ntmps23
  go_wp2
  exact bodyPost_ret (results_cell_row Tryd.results23 _ _ w.heap.size 25 _ (0, 0) _ rfl ((Blk.new w 25 #[.int .i64 18, .int .i64 (n % 32), .int .i64 (n / 32), .int .i64 2]).alloc _) Tryd.underlying25 rfl size25) rfl ⟨rfl, ((Below.refl _ w).alloc (Nat.le_refl _) _).alloc (by simp) _⟩

set_option maxRecDepth 100000 in
set_option maxHeartbeats 1000000 in
theorem more_134 (n m : Int) (w : World)  :
    Calls Tryd.prog 23 #[.int .i64 134, .int .i64 n, .int .i64 m] w (Ret1 ⟨18, m, n, 3⟩ w) := by
  go_enter Tryd.func23, Tryd.ntmps23
  go_wp2
  exact bodyPost_ret (results_cell_row Tryd.results23 _ _ w.heap.size 25 _ (0, 0) _ rfl ((Blk.new w 25 #[.int .i64 18, .int .i64 m, .int .i64 n, .int .i64 3]).alloc _) Tryd.underlying25 rfl size25) rfl ⟨rfl, ((Below.refl _ w).alloc (Nat.le_refl _) _).alloc (by simp) _⟩

set_option maxRecDepth 100000 in
set_option maxHeartbeats 1000000 in
theorem more_160 (n m : Int) (w : World) (h : 0 ≤ n ∧ n ≤ 255) :
    Calls Tryd.prog 23 #[.int .i64 160, .int .i64 n, .int .i64 m] w (Ret1 ⟨22, (-1024 + n), 0, 2⟩ w) := by
  go_enter Tryd.func23, Tryd.ntmps23
  go_wp2
  exact bodyPost_ret (results_cell_row Tryd.results23 _ _ w.heap.size 25 _ (0, 0) _ rfl ((Blk.new w 25 #[.int .i64 22, .int .i64 (-1024 + n), .int .i64 0, .int .i64 2]).alloc _) Tryd.underlying25 rfl size25) rfl ⟨rfl, ((Below.refl _ w).alloc (Nat.le_refl _) _).alloc (by simp) _⟩

set_option maxRecDepth 100000 in
set_option maxHeartbeats 1000000 in
theorem more_161 (n m : Int) (w : World) (h : 0 ≤ n ∧ n ≤ 255) :
    Calls Tryd.prog 23 #[.int .i64 161, .int .i64 n, .int .i64 m] w (Ret1 ⟨22, (-768 + n), 0, 2⟩ w) := by
  go_enter Tryd.func23, Tryd.ntmps23
  go_wp2
  exact bodyPost_ret (results_cell_row Tryd.results23 _ _ w.heap.size 25 _ (0, 0) _ rfl ((Blk.new w 25 #[.int .i64 22, .int .i64 (-768 + n), .int .i64 0, .int .i64 2]).alloc _) Tryd.underlying25 rfl size25) rfl ⟨rfl, ((Below.refl _ w).alloc (Nat.le_refl _) _).alloc (by simp) _⟩

set_option maxRecDepth 100000 in
set_option maxHeartbeats 1000000 in
theorem more_162 (n m : Int) (w : World) (h : 0 ≤ n ∧ n ≤ 255) :
    Calls Tryd.prog 23 #[.int .i64 162, .int .i64 n, .int .i64 m] w (Ret1 ⟨22, (-512 + n), 0, 2⟩ w) := by
  go_enter Tryd.func23, Tryd.ntmps23
  go_wp2
  exact bodyPost_ret (results_cell_row Tryd.results23 _ _ w.heap.size 25 _ (0, 0) _ rfl ((Blk.new w 25 #[.int .i64 22, .int .i64 (-512 + n), .int .i64 0, .int .i64 2]).alloc _) Tryd.underlying25 rfl size25) rfl ⟨rfl, ((Below.refl _ w).alloc (Nat.le_refl _) _).alloc (by simp) _⟩

set_option maxRecDepth 100000 in
set_option maxHeartbeats 1000000 in
theorem more_163 (n m : Int) (w : World) (h : 0 ≤ n ∧ n ≤ 255) :
    Calls Tryd.prog 23 #[.int .i64 163, .int .i64 n, .int .i64 m] w (Ret1 ⟨22, (-256 + n), 0, 2⟩ w) := by
  go_enter Tryd.func23, Tryd.ntmps23
  go_wp2
  exact bodyPost_ret (results_cell_row Tryd.results23 _ _ w.heap.size 25 _ (0, 0) _ rfl ((Blk.new w 25 #[.int .i64 22, .int .i64 (-256 + n), .int .i64 0, .int .i64 2]).alloc _) Tryd.underlying25 rfl size25) rfl ⟨rfl, ((Below.refl _ w).alloc (Nat.le_refl _) _).alloc (by simp) _⟩

set_option maxRecDepth 100000 in
set_option maxHeartbeats 1000000 in
theorem more_164 (n m : Int) (w : World) (h : 0 ≤ n ∧ n ≤ 255) :
    Calls Tryd.prog 23 #[.int .i64 164, .int .i64 n, .int .i64 m] w (Ret1 ⟨22, n, 0, 2⟩ w) := by
  go_enter Tryd.func23, Tryd.ntmps23
  go_wp2
  exact bodyPost_ret (results_cell_row Tryd.results23 _ _ w.heap.size 25 _ (0, 0) _ rfl ((Blk.new w 25 #[.int .i64 22, .int .i64 n, .int .i64 0, .int .i64 2]).alloc _) Tryd.underlying25 rfl size25) rfl ⟨rfl, ((Below.refl _ w).alloc (Nat.le_refl _) _).alloc (by simp) _⟩

set_option maxRecDepth 100000 in
set_option maxHeartbeats 1000000 in
theorem more_165 (n m : Int) (w : World) (h : 0 ≤ n ∧ n ≤ 255) :
    Calls Tryd.prog 23 #[.int .i64 165, .int .i64 n, .int .i64 m] w (Ret1 ⟨22, (256 + n), 0, 2⟩ w) := by
  go_enter Tryd.func23, Tryd.ntmps23
  go_wp2
  exact bodyPost_ret (results_cell_row Tryd.results23 _ _ w.heap.size 25 _ (0, 0) _ rfl ((Blk.new w 25 #[.int .i64 22, .int .i64 (256 + n), .int .i64 0, .int .i64 2]).alloc _) Tryd.underlying25 rfl size25) rfl ⟨rfl, ((Below.refl _ w).alloc (Nat.le_refl _) _).alloc (by simp) _⟩

set_option maxRecDepth 100000 in
set_option maxHeartbeats 1000000 in
theorem more_166 (n m : Int) (w : World) (h : 0 ≤ n ∧ n ≤ 255) :
    Calls Tryd.prog 23 #[.int .i64 166, .int .i64 n, .int .i64 m] w (Ret1 ⟨22, (512 + n), 0, 2⟩ w) := by
  go_enter Tryd.func23, Tryd.ntmps23
  go_wp2
  exact bodyPost_ret (results_cell_row Tryd.results23 _ _ w.heap.size 25 _ (0, 0) _ rfl ((Blk.new w 25 #[.int .i64 22, .int .i64 (512 + n), .int .i64 0, .int .i64 2]).alloc _) Tryd.underlying25 rfl size25) rfl ⟨rfl, ((Below.refl _ w).alloc (Nat.le_refl _) _).alloc (by simp) _⟩

set_option maxRecDepth 100000 in
set_option maxHeartbeats 1000000 in
theorem more_167 (n m : Int) (w : World) (h : 0 ≤ n ∧ n ≤ 255) :
    Calls Tryd.prog 23 #[.int .i64 167, .int .i64 n, .int .i64 m] w (Ret1 ⟨22, (768 + n), 0, 2⟩ w) := by
  go_enter Tryd.func23, Tryd.ntmps23
  go_wp2
  exact bodyPost_ret (results_cell_row Tryd.results23 _ _ w.heap.size 25 _ (0, 0) _ rfl ((Blk.new w 25 #[.int .i64 22, .int .i64 (768 + n), .int .i64 0, .int .i64 2]).alloc _) Tryd.underlying25 rfl size25) rfl ⟨rfl, ((Below.refl _ w).alloc (Nat.le_refl _) _).alloc (by simp) _⟩

set_option maxRecDepth 100000 in
set_option maxHeartbeats 1000000 in
theorem more_168 (n m : Int) (w : World) (h : 0 ≤ n ∧ n ≤ 255) :
    Calls Tryd.prog 23 #[.int .i64 168, .int .i64 n, .int .i64 m] w (Ret1 ⟨23, n, 0, 2⟩ w) := by
  go_enter Tryd.func23, Tryd.ntmps23
  go_wp2
  exact bodyPost_ret (results_cell_row Tryd.results23 _ _ w.heap.size 25 _ (0, 0) _ rfl ((Blk.new w 25 #[.int .i64 23, .int .i64 n, .int .i64 0, .int .i64 2]).alloc _) Tryd.underlying25 rfl size25) rfl ⟨rfl, ((Below.refl _ w).alloc (Nat.le_refl _) _).alloc (by simp) _⟩

set_option maxRecDepth 100000 in
set_option maxHeartbeats 1000000 in
theorem more_169 (n m : Int) (w : World) (h : 0 ≤ n ∧ n ≤ 255) :
    Calls Tryd.prog 23 #[.int .i64 169, .int .i64 n, .int .i64 m] w (Ret1 ⟨23, (256 + n), 0, 2⟩ w) := by
  go_enter Tryd.func23, Tryd.ntmps23
  go_wp2
  exact bodyPost_ret (results_cell_row Tryd.results23 _ _ w.heap.size 25 _ (0, 0) _ rfl ((Blk.new w 25 #[.int .i64 23, .int .i64 (256 + n), .int .i64 0, .int .i64 2]).alloc _) Tryd.underlying25 rfl size25) rfl ⟨rfl, ((Below.refl _ w).alloc (Nat.le_refl _) _).alloc (by simp) _⟩

set_option maxRecDepth 100000 in
set_option maxHeartbeats 1000000 in
theorem more_170 (n m : Int) (w : World) (h : 0 ≤ n ∧ n ≤ 255) :
    Calls Tryd.prog 23 #[.int .i64 170, .int .i64 n, .int .i64 m] w (Ret1 ⟨23, (512 + n), 0, 2⟩ w) := by
  go_enter Tryd.func23, Tryd.ntmps23
  go_wp2
  exact bodyPost_ret (results_cell_row Tryd.results23 _ _ w.heap.size 25 _ (0, 0) _ rfl ((Blk.new w 25 #[.int .i64 23, .int .i64 (512 + n), .int .i64 0, .int .i64 2]).alloc _) Tryd.underlying25 rfl size25) rfl ⟨rfl, ((Below.refl _ w).alloc (Nat.le_refl _) _).alloc (by simp) _⟩

set_option maxRecDepth 100000 in
set_option maxHeartbeats 1000000 in
theorem more_171 (n m : Int) (w : World) (h : 0 ≤ n ∧ n ≤ 255) :
    Calls Tryd.prog 23 #[.int .i64 171, .int .i64 n, .int .i64 m] w (Ret1 ⟨23, (768 + n), 0, 2⟩ w) := by
  go_enter Tryd.func23, Tryd.ntmps23
  go_wp2
  exact bodyPost_ret (results_cell_row Tryd.results23 _ _ w.heap.size 25 _ (0, 0) _ rfl ((Blk.new w 25 #[.int .i64 23, .int .i64 (768 + n), .int .i64 0, .int .i64 2]).alloc _) Tryd.underlying25 rfl size25) rfl ⟨rfl, ((Below.refl _ w).alloc (Nat.le_refl _) _).alloc (by simp) _⟩

set_option maxRecDepth 100000 in
set_option maxHeartbeats 1000000 in
theorem more_172 (n m : Int) (w : World) (h : 0 ≤ n ∧ n ≤ 255) :
    Calls Tryd.prog 23 #[.int .i64 172, .int .i64 n, .int .i64 m] w (Ret1 ⟨24, n, 0, 2⟩ w) := by
  go_enter Tryd.func23, Tryd.ntmps23
  go_wp2
  exact bodyPost_ret (results_cell_row Tryd.results23 _ _ w.heap.size 25 _ (0, 0) _ rfl ((Blk.new w 25 #[.int .i64 24, .int .i64 n, .int .i64 0, .int .i64 2]).alloc _) Tryd.underlying25 rfl size25) rfl ⟨rfl, ((Below.refl _ w).alloc (Nat.le_refl _) _).alloc (by simp) _⟩

set_option maxRecDepth 100000 in
set_option maxHeartbeats 1000000 in
theorem more_173 (n m : Int) (w : World) (h : 0 ≤ n ∧ n ≤ 255) :
    Calls Tryd.prog 23 #[.int .i64 173, .int .i64 n, .int .i64 m] w (Ret1 ⟨24, (256 + n), 0, 2⟩ w) := by
  go_enter Tryd.func23, Tryd.ntmps23
  go_wp2
  exact bodyPost_ret (results_cell_row Tryd.results23 _ _ w.heap.size 25 _ (0, 0) _ rfl ((Blk.new w 25 #[.int .i64 24, .int .i64 (256 + n), .int .i64 0, .int .i64 2]).alloc _) Tryd.underlying25 rfl size25) rfl ⟨rfl, ((Below.refl _ w).alloc (Nat.le_refl _) _).alloc (by simp) _⟩

set_option maxRecDepth 100000 in
set_option maxHeartbeats 1000000 in
theorem more_174 (n m : Int) (w : World) (h : 0 ≤ n ∧ n ≤ 255) :
    Calls Tryd.prog 23 #[.int .i64 174, .int .i64 n, .int .i64 m] w (Ret1 ⟨24, (512 + n), 0, 2⟩ w) := by
  go_enter Tryd.func23, Tryd.ntmps23
  go_wp2
  exact bodyPost_ret (results_cell_row Tryd.results23 _ _ w.heap.size 25 _ (0, 0) _ rfl ((Blk.new w 25 #[.int .i64 24, .int .i64 (512 + n), .int .i64 0, .int .i64 2]).alloc _) Tryd.underlying25 rfl size25) rfl ⟨rfl, ((Below.refl _ w).alloc (Nat.le_refl _) _).alloc (by simp) _⟩

set_option maxRecDepth 100000 in
set_option maxHeartbeats 1000000 in
theorem more_175 (n m : Int) (w : World) (h : 0 ≤ n ∧ n ≤ 255) :
    Calls Tryd.prog 23 #[.int .i64 175, .int .i64 n, .int .i64 m] w (Ret1 ⟨24, (768 + n), 0, 2⟩ w) := by
  go_enter Tryd.func23, Tryd.ntmps23
  go_wp2
  exact bodyPost_ret (results_cell_row Tryd.results23 _ _ w.heap.size 25 _ (0, 0) _ rfl ((Blk.new w 25 #[.int .i64 24, .int .i64 (768 + n), .int .i64 0, .int .i64 2]).alloc _) Tryd.underlying25 rfl size25) rfl ⟨rfl, ((Below.refl _ w).alloc (Nat.le_refl _) _).alloc (by simp) _⟩

theorem more_any (c n m : Int) (w : World) (ht : Tabs w) (hc : longC c) (h : 0 ≤ n ∧ n ≤ 255) :
    Calls Tryd.prog 23 #[.int .i64 c, .int .i64 n, .int .i64 m] w (Ret1 (moreM c n m) w) := by
  have hcs : c = 128 ∨ c = 129 ∨ c = 130 ∨ c = 131 ∨ c = 132 ∨ c = 133 ∨ c = 134 ∨ c = 160 ∨ c = 161 ∨ c = 162 ∨ c = 163 ∨ c = 164 ∨ c = 165 ∨ c = 166 ∨ c = 167 ∨ c = 168 ∨ c = 169 ∨ c = 170 ∨ c = 171 ∨ c = 172 ∨ c = 173 ∨ c = 174 ∨ c = 175 := by
    rcases hc with hc | hc <;> omega
  have hn : (0 ≤ n ∧ n ≤ 63) ∨ (64 ≤ n ∧ n ≤ 127) ∨ (128 ≤ n ∧ n ≤ 191) ∨ (192 ≤ n ∧ n ≤ 255) := by omega
  rcases hcs with rfl | rfl | rfl | rfl | rfl | rfl | rfl | rfl | rfl | rfl | rfl | rfl | rfl | rfl | rfl | rfl | rfl | rfl | rfl | rfl | rfl | rfl | rfl
  · rcases hn with h1 | h1 | h1 | h1
    · refine (more_128_0 n m w ht h1).mono fun e w' hr => Ret1.of hr ?_
      have hq : n / 64 = 0 := by omega
      simp [moreM, storeK, hq]
    · refine (more_128_1 n m w ht h1).mono fun e w' hr => Ret1.of hr ?_
      have hq : n / 64 = 1 := by omega
      simp [moreM, storeK, hq]
    · refine (more_128_2 n m w ht h1).mono fun e w' hr => Ret1.of hr ?_
      have hq : n / 64 = 2 := by omega
      simp [moreM, storeK, hq]
    · refine (more_128_3 n m w ht h1).mono fun e w' hr => Ret1.of hr ?_
      have hq : n / 64 = 3 := by omega
      simp [moreM, storeK, hq]
  · rcases hn with h1 | h1 | h1 | h1
    · refine (more_129_0 n m w ht h1).mono fun e w' hr => Ret1.of hr ?_
      have hq : n / 64 = 0 := by omega
      simp [moreM, storeK, hq]
    · refine (more_129_1 n m w ht h1).mono fun e w' hr => Ret1.of hr ?_
      have hq : n / 64 = 1 := by omega
      simp [moreM, storeK, hq]
    · refine (more_129_2 n m w ht h1).mono fun e w' hr => Ret1.of hr ?_
      have hq : n / 64 = 2 := by omega
      simp [moreM, storeK, hq]
    · refine (more_129_3 n m w ht h1).mono fun e w' hr => Ret1.of hr ?_
      have hq : n / 64 = 3 := by omega
      simp [moreM, storeK, hq]
  · rcases hn with h1 | h1 | h1 | h1
    · refine (more_130_0 n m w ht h1).mono fun e w' hr => Ret1.of hr ?_
      have hq : n / 64 = 0 := by omega
      simp [moreM, storeK, hq]
    · refine (more_130_1 n m w ht h1).mono fun e w' hr => Ret1.of hr ?_
      have hq : n / 64 = 1 := by omega
      simp [moreM, storeK, hq]
    · refine (more_130_2 n m w ht h1).mono fun e w' hr => Ret1.of hr ?_
      have hq : n / 64 = 2 := by omega
      simp [moreM, storeK, hq]
    · refine (more_130_3 n m w ht h1).mono fun e w' hr => Ret1.of hr ?_
      have hq : n / 64 = 3 := by omega
      simp [moreM, storeK, hq]
  · exact (more_131 n m w h).mono fun e w' hr => Ret1.of hr (by simp [moreM])
  · exact (more_132 n m w).mono fun e w' hr => Ret1.of hr (by simp [moreM])
  · exact (more_133 n m w h).mono fun e w' hr => Ret1.of hr (by simp [moreM])
  · exact (more_134 n m w).mono fun e w' hr => Ret1.of hr (by simp [moreM])
  · exact (more_160 n m w h).mono fun e w' hr => Ret1.of hr (by simp [moreM])
  · exact (more_161 n m w h).mono fun e w' hr => Ret1.of hr (by simp [moreM])
  · exact (more_162 n m w h).mono fun e w' hr => Ret1.of hr (by simp [moreM])
  · exact (more_163 n m w h).mono fun e w' hr => Ret1.of hr (by simp [moreM])
  · exact (more_164 n m w h).mono fun e w' hr => Ret1.of hr (by simp [moreM])
  · exact (more_165 n m w h).mono fun e w' hr => Ret1.of hr (by simp [moreM])
  · exact (more_166 n m w h).mono fun e w' hr => Ret1.of hr (by simp [moreM])
  · exact (more_167 n m w h).mono fun e w' hr => Ret1.of hr (by simp [moreM])
  · exact (more_168 n m w h).mono fun e w' hr => Ret1.of hr (by simp [moreM])
  · exact (more_169 n m w h).mono fun e w' hr => Ret1.of hr (by simp [moreM])
  · exact (more_170 n m w h).mono fun e w' hr => Ret1.of hr (by simp [moreM])
  · exact (more_171 n m w h).mono fun e w' hr => Ret1.of hr (by simp [moreM])
  · exact (more_172 n m w h).mono fun e w' hr => Ret1.of hr (by simp [moreM])
  · exact (more_173 n m w h).mono fun e w' hr => Ret1.of hr (by simp [moreM])
  · exact (more_174 n m w h).mono fun e w' hr => Ret1.of hr (by simp [moreM])
  · exact (more_175 n m w h).mono fun e w' hr => Ret1.of hr (by simp [moreM])
end Go.Proofs.YtdbignfpmpohiaaDoor
