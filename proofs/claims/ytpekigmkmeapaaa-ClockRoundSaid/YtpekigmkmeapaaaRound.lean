/-
  The walk of ClockRound: where all are in, and none is touched or pinned, they go in order, round and round, from the hand on. Conditions: none.
-/
import Derived.Test.YtpekigmkmeapaaaPins
import Derived.IntWalk
namespace Go.Proofs.Ytpekigmkmeapaaa
open Go.RowKit

theorem hand_quiet (W : World) (c lb h : Nat) (L : List Pl) (k : Clk W c lb L h) (n : Nat) (v : Int) (hv : v = h) :
    Calls Try.prog 13 #[.pointer (some ⟨c, 0, none⟩)] (W.drewN n) fun e w' => e = .returned (.int .i64 v) ∧ ∃ m, w' = W.drewN m := by
  subst hv
  exact (hand_any (W.drewN n) c lb h L (k.drewN n)).mono fun _ _ ⟨he, hw⟩ => ⟨he, n, hw.symm⟩

set_option maxHeartbeats 1000000 in
theorem round_walk (a0 a1 : Int) (k : Nat) (w : World) (b0 : 0 ≤ a0 ∧ a0 ≤ 255) (b1 : 0 ≤ a1 ∧ a1 ≤ 255) (hk : 1 + a0 % 20 = (k : Int)) :
    Calls Try.prog 4 #[.int .u8 a0, .int .u8 a1] w fun e w' => e = .returned (.bool true) ∧ Below w.heap.size w w' := by
  have hkp : 0 < k ∧ k ≤ 20 := by omega
  go_enter Try.func4, Try.ntmps4
  go_wp2_with fail
  refine (new_ok _ k (by omega)).mono ?_
  rintro e w1 ⟨c, lb, rfl, k0, hb0, hc, hlb⟩
  rw [← inL_zero] at k0
  go_wp2_with fail
  clear hk
  go_loopg [8] k (fun g s11 wr => ∃ j : Nat, j + g = k ∧ s11 = .int .i64 j ∧ Clk wr c lb (inL j k) 0 ∧ Below w.heap.size w wr)
  case atStart => exact ⟨0, by omega, rfl, k0, hb0⟩
  case round =>
    obtain ⟨j, hj, rfl, k1, hb1⟩ := hrel
    have hsz1 := hb1.size
    cases gk with
    | succ g =>
      have hjn : (j : Int) < k := by omega
      clear k0 hb0
      go_wp2_with (go_at_call 9; refine (in_ok _ _ _ _ _ _ _ k1 (by rw [inL_length _ _ (by omega)]; omega)).mono ?_; rintro e w2 ⟨rfl, k2, ho2⟩)
      rw [inL_set j k (by omega)] at k2
      go_roundg g
      case measure => omega
      case rel => exact ⟨j + 1, by omega, by go_num, k2, ho2.below hb1 hsz1 hc hlb⟩
    | zero =>
      have hjn : ¬ ((j : Int) < k) := by omega
      obtain rfl : j = k := by omega
      rw [inL_all] at k1
      change Clk wr c lb (allL j) 0 at k1
      clear hj k0 hb0
      go_wp2
      go_loopg [9] a1.toNat (fun g s9 wr => ∃ (i : Nat), (i : Int) + g = a1 ∧ s9 = .int .i64 i ∧ Clk wr c lb (allL j) (i % j) ∧ Below w.heap.size w wr)
      case atStart => exact ⟨0, by omega, rfl, by rw [Nat.zero_mod]; exact k1, hb1⟩
      case round =>
        clear k1 hb1 hjn hsz1
        obtain ⟨i, hi, rfl, k3, hb3⟩ := hrel
        have hsz3 := hb3.size
        cases gk with
        | zero =>
          have hin : ¬ ((i : Int) < a1) := by omega
          go_wp2_with (go_at_call 12; refine (known_any _).mono ?_; rintro e w6 ⟨rfl, hb6⟩)
          go_ret
          exact ⟨rfl, hb3.trans (hb6.mono hsz3)⟩
        | succ g =>
          have hin : (i : Int) < a1 := by omega
          have himod : i % j < j := Nat.mod_lt _ (by omega)
          obtain ⟨f, hf⟩ : ∃ f, 2 * (allL j).length = f + 1 := ⟨2 * j - 1, by rw [allL_length]; omega⟩
          have hvic : vic (2 * (allL j).length) (allL j) (i % j) = (allL j, (i + 1) % j, some (i % j)) := by rw [hf, vic_allL j f _ himod, Nat.mod_add_mod]
          have HVC := Lib.hid hvic
          clear hvic hf
          obtain ⟨v, hv⟩ : ∃ v, v = i % j := ⟨_, rfl⟩
          rw [← hv] at k3 himod
          have HV := Lib.hid hv
          have hcast : (i : Int) % (j : Int) = (v : Int) := by rw [hv]; simp
          have hjz : ¬ ((j : Int) = 0) := by omega
          have hmod : (i : Int).tmod (j : Int) = (v : Int) := by rw [hv]; rfl
          have hwr : IntKind.i64.wrap (v : Int) = (v : Int) := IntWalk.i64_in _ (by omega)
          clear hv
          go_wp2_with fail
          go_quiet ((go_at_call 13; exact hand_quiet _ _ _ _ _ k3 _ _ rfl))
          clear hmod hwr
          have k4 := k3.drewN nq
          have hb4 : Below w.heap.size w (wr.drewN nq) := ⟨hb3.os, hb3.tape, hb3.output, hb3.size, hb3.block⟩
          clear k3 hb3
          rw [← HV.out] at HVC
          go_wp2_with (go_at_call 11; refine (victim_some _ _ _ _ _ _ _ _ k4 (Or.inl (by rw [allL_length]; exact himod)) HVC.out).mono ?_; rintro e w6 ⟨rfl, k6, ho6⟩)
          go_roundg g
          case measure => omega
          case rel => exact ⟨i + 1, by omega, by go_num, k6, ho6.below hb4 hsz3 hc hlb⟩
theorem round_bd (a0 a1 : Int) (w : World) (w0 : (Lit.int .u8 a0).wf = true) (w1 : (Lit.int .u8 a1).wf = true) :
    Calls Try.prog 4 #[.int .u8 a0, .int .u8 a1] w fun e w' => e = .returned (.bool true) ∧ Below w.heap.size w w' := by
  have b0 := u8_bd w0
  exact round_walk a0 a1 (1 + a0 % 20).toNat w b0 (u8_bd w1) (by omega)
end Go.Proofs.Ytpekigmkmeapaaa
