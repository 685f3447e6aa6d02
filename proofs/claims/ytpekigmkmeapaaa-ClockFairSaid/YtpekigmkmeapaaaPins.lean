/-
  ClockPins: who is pinned never goes, however often one has to; who is pinned no more does in the end. Conditions: none.
-/
import Derived.Test.YtpekigmkmeapaaaKno
namespace Go.Proofs.Ytpekigmkmeapaaa
open Go.RowKit

/-- all are in -/
def allL (k : Nat) : List Pl := List.replicate k ⟨true, false, false⟩
/-- all are in, one is pinned -/
def pinL (k p : Nat) : List Pl := (allL k).set p ⟨true, false, true⟩

theorem allL_get (k i : Nat) (h : i < k) : (allL k)[i]? = some ⟨true, false, false⟩ := by simp [allL, h]
theorem pinL_length (k p : Nat) : (pinL k p).length = k := by simp [pinL, allL]
theorem allL_length (k : Nat) : (allL k).length = k := by simp [allL]
theorem pinL_other (k p i : Nat) (h : i < k) (hne : i ≠ p) : (pinL k p)[i]? = some ⟨true, false, false⟩ := by
  rw [pinL, List.getElem?_set_ne (Ne.symm hne), allL_get k i h]
theorem pinL_self (k p : Nat) (h : p < k) : (pinL k p)[p]? = some ⟨true, false, true⟩ := by
  rw [pinL, List.getElem?_set_self (by rw [allL_length]; exact h)]
theorem pinL_back (k p : Nat) : (pinL k p).set p ⟨true, false, false⟩ = allL k := by
  apply List.ext_getElem?
  intro i
  rw [pinL, List.set_set, List.getElem?_set, allL_length]
  by_cases e : p = i
  · subst e
    by_cases h : p < k
    · rw [if_pos rfl, if_pos h, allL_get k p h]
    · rw [if_pos rfl, if_neg h, List.getElem?_eq_none (by rw [allL_length]; omega)]
  · rw [if_neg e]

theorem vic_allL (k f h : Nat) (hh : h < k) : vic (f + 1) (allL k) h = (allL k, (h + 1) % k, some h) := by
  rw [vic, allL_get k h hh, allL_length]
  rfl

theorem vic_pinL (k p h : Nat) (hk : 1 < k) (hp : p < k) (hh : h < k) : ∃ v h', vic (2 * (pinL k p).length) (pinL k p) h = (pinL k p, h', some v) ∧ v ≠ p ∧ v < k ∧ h' < k := by
  rw [pinL_length]
  obtain ⟨f, hf⟩ : ∃ f, 2 * k = f + 1 + 1 := ⟨2 * k - 2, by omega⟩
  rw [hf]
  have hm : ∀ x, x % k < k := fun x => Nat.mod_lt _ (by omega)
  by_cases e : h = p
  · subst e
    have hne : (h + 1) % k ≠ h := by
      rcases Nat.lt_or_ge (h + 1) k with h1 | h1
      · rw [Nat.mod_eq_of_lt h1]; omega
      · have : h + 1 = k := by omega
        rw [this, Nat.mod_self]; omega
    refine ⟨(h + 1) % k, ((h + 1) % k + 1) % k, ?_, hne, hm _, hm _⟩
    rw [vic, pinL_self k h hp, pinL_length]
    show vic (f + 1) (pinL k h) ((h + 1) % k) = _
    rw [vic, pinL_other k h _ (hm _) hne, pinL_length]
    rfl
  · refine ⟨h, (h + 1) % k, ?_, e, hh, hm _⟩
    rw [vic, pinL_other k p h hh e, pinL_length]
    rfl

theorem vic_pinL1 : vic (2 * (pinL 1 0).length) (pinL 1 0) 0 = (pinL 1 0, 0, none) := by decide

/-- has p been met in i turns from h on? -/
def met (k h p i : Nat) : Bool := (List.range i).any fun j => (h + j) % k == p
theorem met_succ (k h p i : Nat) : met k h p (i + 1) = (met k h p i || (h + i) % k == p) := by
  simp [met, List.range_succ]
theorem met_all (k h p : Nat) (hp : p < k) (hh : h < k) : met k h p k = true := by
  simp only [met, List.any_eq_true, List.mem_range, beq_iff_eq]
  by_cases e : h ≤ p
  · exact ⟨p - h, by omega, by rw [show h + (p - h) = p from by omega, Nat.mod_eq_of_lt hp]⟩
  · exact ⟨p + k - h, by omega, by rw [show h + (p + k - h) = p + k from by omega, Nat.add_mod_right, Nat.mod_eq_of_lt hp]⟩

set_option maxHeartbeats 1000000 in
theorem pins_walk (a0 a1 a2 : Int) (k p : Nat) (w : World) (b0 : 0 ≤ a0 ∧ a0 ≤ 255) (b1 : 0 ≤ a1 ∧ a1 ≤ 255) (b2 : 0 ≤ a2 ∧ a2 ≤ 255) (hk : 1 + a0 % 20 = (k : Int)) (hp : a1 % (k : Int) = (p : Int)) :
    Calls Try.prog 3 #[.int .u8 a0, .int .u8 a1, .int .u8 a2] w fun e w' => e = .returned (.bool true) ∧ Below w.heap.size w w' := by
  have hkp : 0 < k ∧ k ≤ 20 := by omega
  have hpk : p < k := by have := Int.emod_lt_of_pos a1 (show (0 : Int) < k from by omega); omega
  go_enter Try.func3, Try.ntmps3
  go_wp2_with fail
  refine (new_ok _ k (by omega)).mono ?_
  rintro e w1 ⟨c, lb, rfl, k0, hb0, hc, hlb⟩
  rw [← inL_zero] at k0
  go_wp2_with fail
  rw [hp]
  clear hk hp
  go_loopg [11] k (fun g s11 wr => ∃ j : Nat, j + g = k ∧ s11 = .int .i64 j ∧ Clk wr c lb (inL j k) 0 ∧ Below w.heap.size w wr)
  case atStart => exact ⟨0, by omega, rfl, k0, hb0⟩
  case round =>
    obtain ⟨j, hj, rfl, k1, hb1⟩ := hrel
    have hsz1 := hb1.size
    cases gk with
    | succ g =>
      have hjn : (j : Int) < k := by omega
      clear k0 hb0
      go_wp2_with (go_at_call 9; refine (in_ok _ _ _ _ _ _ _ k1 (by rw [inL_length _ _ (by omega)]; omega)).mono ?_; rintro e w2 ⟨rfl, k2, ho2⟩)
      rw [inL_set j k (by omega)] at k2
      go_roundg g
      case measure => omega
      case rel => exact ⟨j + 1, by omega, by go_num, k2, ho2.below hb1 hsz1 hc hlb⟩
    | zero =>
      have hjn : ¬ ((j : Int) < k) := by omega
      obtain rfl : j = k := by omega
      rw [inL_all] at k1
      change Clk wr c lb (allL j) 0 at k1
      clear hj k0 hb0
      go_wp2_with (go_at_call 10; refine (pin_ok _ _ _ _ _ _ _ _ k1 (allL_get j p hpk) rfl).mono ?_; rintro e w2 ⟨rfl, k2, ho2⟩)
      change Clk w2 c lb (pinL j p) 0 at k2
      have hb2 := ho2.below hb1 hsz1 hc hlb
      clear k1 ho2 hb1 hjn hsz1
      go_loopg [12] a2.toNat (fun g s12 wr => ∃ (i h : Nat), (i : Int) + g = a2 ∧ s12 = .int .i64 i ∧ h < j ∧ Clk wr c lb (pinL j p) h ∧ Below w.heap.size w wr)
      case atStart => exact ⟨0, 0, by omega, rfl, by omega, k2, hb2⟩
      case round =>
        clear k2 hb2
        obtain ⟨i, h, hi, rfl, hh, k3, hb3⟩ := hrel
        have hsz3 := hb3.size
        cases gk with
        | zero =>
          have hin : ¬ ((i : Int) < a2) := by omega
          go_wp2_with (go_at_call 10; refine (pin_ok _ _ _ _ _ _ _ _ k3 (pinL_self j p hpk) rfl).mono ?_; rintro e w4 ⟨rfl, k4, ho4⟩)
          rw [pinL_back] at k4
          have hb4 := ho4.below hb3 hsz3 hc hlb
          clear k3 ho4 hb3 hsz3 hin hi
          go_loopg [15, 16] j (fun g s15 s16 wr => ∃ (i : Nat) (m : Bool), i + g = j ∧ s16 = .int .i64 i ∧ s15 = .bool m ∧ Aside (m = met j h p i) ∧ Clk wr c lb (allL j) ((h + i) % j) ∧ Below w.heap.size w wr)
          case atStart => exact ⟨0, false, by omega, rfl, rfl, rfl, by rw [Nat.add_zero, Nat.mod_eq_of_lt hh]; exact k4, hb4⟩
          case round =>
            clear k4 hb4
            obtain ⟨i2, m, hi2, rfl, rfl, hm, k5, hb5⟩ := hrel
            have hsz5 := hb5.size
            cases gk with
            | zero =>
              have hin : ¬ ((i2 : Int) < j) := by omega
              obtain rfl : i2 = j := by omega
              have hmt : m = true := by rw [hm.out]; exact met_all _ _ _ hpk hh
              subst hmt
              go_wp2_with (go_at_call 12; refine (known_any _).mono ?_; rintro e w6 ⟨rfl, hb6⟩)
              go_ret
              exact ⟨rfl, hb5.trans (hb6.mono hsz5)⟩
            | succ g =>
              have hin : (i2 : Int) < j := by omega
              obtain ⟨v, hv⟩ : ∃ v, v = (h + i2) % j := ⟨_, rfl⟩
              have hvj : v < j := by rw [hv]; exact Nat.mod_lt _ (by omega)
              rw [← hv] at k5
              obtain ⟨f, hf⟩ : ∃ f, 2 * (allL j).length = f + 1 := ⟨2 * j - 1, by rw [allL_length]; omega⟩
              have hvic : vic (2 * (allL j).length) (allL j) v = (allL j, (v + 1) % j, some v) := by rw [hf]; exact vic_allL j f v hvj
              have hnext : (v + 1) % j = (h + (i2 + 1)) % j := by rw [hv, ← Nat.add_assoc, Nat.mod_add_mod]
              have HNX := Lib.hid hnext
              have HVC := Lib.hid hvic
              have HV := Lib.hid hv
              clear hnext hv hvic hf
              by_cases e : v = p
              · subst e
                cases m
                all_goals
                  go_wp2_with (go_at_call 11; refine (victim_some _ _ _ _ _ _ _ _ k5 (Or.inl (by rw [allL_length]; exact hvj)) HVC.out).mono ?_; rintro e w6 ⟨rfl, k6, ho6⟩)
                  rw [HNX.out] at k6
                  go_roundg g
                  case measure => omega
                  case rel => exact ⟨i2 + 1, true, by omega, by go_num, rfl, by show _ = _; rw [met_succ, ← HV.out]; simp, k6, ho6.below hb5 hsz5 hc hlb⟩
              · have e' : ((v : Int) == (p : Int)) = false := by simp; omega
                have HE := Lib.hid e
                clear e
                cases m
                · go_wp2_with (go_at_call 11; refine (victim_some _ _ _ _ _ _ _ _ k5 (Or.inl (by rw [allL_length]; exact hvj)) HVC.out).mono ?_; rintro e w6 ⟨rfl, k6, ho6⟩)
                  rw [HNX.out] at k6
                  go_roundg g
                  case measure => omega
                  case rel => exact ⟨i2 + 1, false, by omega, by go_num, rfl, by show _ = _; rw [met_succ, ← HV.out, ← hm.out]; simpa using HE.out, k6, ho6.below hb5 hsz5 hc hlb⟩
                · go_wp2_with (go_at_call 11; refine (victim_some _ _ _ _ _ _ _ _ k5 (Or.inl (by rw [allL_length]; exact hvj)) HVC.out).mono ?_; rintro e w6 ⟨rfl, k6, ho6⟩)
                  rw [HNX.out] at k6
                  go_roundg g
                  case measure => omega
                  case rel => exact ⟨i2 + 1, true, by omega, by go_num, rfl, by show _ = _; rw [met_succ, ← hm.out]; rfl, k6, ho6.below hb5 hsz5 hc hlb⟩
        | succ g =>
          have hin : (i : Int) < a2 := by omega
          rcases Nat.lt_or_ge 1 j with hj1 | hj1
          · obtain ⟨v, h', hv, hvp, hvk, hh'⟩ := vic_pinL j p h hj1 hpk hh
            have hvp' : ((v : Int) == (p : Int)) = false := by simp; omega
            go_wp2_with (go_at_call 11; refine (victim_some _ _ _ _ _ _ _ _ k3 (Or.inl (by rw [pinL_length]; exact hh)) hv).mono ?_; rintro e w4 ⟨rfl, k4, ho4⟩)
            go_roundg g
            case measure => omega
            case rel => exact ⟨i + 1, h', by omega, by go_num, hh', k4, ho4.below hb3 hsz3 hc hlb⟩
          · obtain rfl : j = 1 := by omega
            obtain rfl : p = 0 := by omega
            obtain rfl : h = 0 := by omega
            go_wp2_with (go_at_call 11; refine (victim_none _ _ _ _ _ _ _ k3 (Or.inl (by decide)) vic_pinL1).mono ?_; rintro e w4 ⟨rfl, k4, ho4⟩)
            go_roundg g
            case measure => omega
            case rel => exact ⟨i + 1, 0, by omega, by go_num, by omega, k4, ho4.below hb3 hsz3 hc hlb⟩
theorem u8_bd {a : Int} (h : (Lit.int .u8 a).wf = true) : 0 ≤ a ∧ a ≤ 255 := by
  simpa [Lit.wf, IntKind.min, IntKind.max, IntKind.signed, IntKind.bits] using h

theorem pins_bd (a0 a1 a2 : Int) (w : World) (w0 : (Lit.int .u8 a0).wf = true) (w1 : (Lit.int .u8 a1).wf = true) (w2 : (Lit.int .u8 a2).wf = true) :
    Calls Try.prog 3 #[.int .u8 a0, .int .u8 a1, .int .u8 a2] w fun e w' => e = .returned (.bool true) ∧ Below w.heap.size w w' := by
  have b0 := u8_bd w0
  have b1 := u8_bd w1
  have b2 := u8_bd w2
  have hk : 1 + a0 % 20 = ((1 + a0 % 20).toNat : Int) := by omega
  have hp : 0 ≤ a1 % ((1 + a0 % 20).toNat : Int) := Int.emod_nonneg _ (by omega)
  exact pins_walk a0 a1 a2 _ (a1 % ((1 + a0 % 20).toNat : Int)).toNat w b0 b1 b2 hk (by omega)
end Go.Proofs.Ytpekigmkmeapaaa
