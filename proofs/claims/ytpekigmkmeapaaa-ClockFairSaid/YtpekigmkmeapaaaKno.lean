/-
  The contract of websterlaw09.known: true, nothing old has turned.
-/
import Derived.Test.YtpekigmkmeapaaaTou
namespace Go.Proofs.Ytpekigmkmeapaaa
open Go.RowKit

/-- the first j of k are in -/
def inL (j k : Nat) : List Pl := List.replicate j ⟨true, false, false⟩ ++ List.replicate (k - j) ⟨false, false, false⟩
theorem inL_zero (k : Nat) : inL 0 k = fresh k := by simp [inL, fresh]
theorem inL_length (j k : Nat) (h : j ≤ k) : (inL j k).length = k := by simp [inL]; omega
theorem inL_all (k : Nat) : inL k k = List.replicate k ⟨true, false, false⟩ := by simp [inL]
theorem inL_set (j k : Nat) (h : j < k) : (inL j k).set j ⟨true, false, false⟩ = inL (j + 1) k := by
  apply List.ext_getElem?
  intro i
  rw [List.getElem?_set]
  simp only [inL, List.length_append, List.length_replicate, List.getElem?_append, List.getElem?_replicate]
  by_cases e : j = i
  · subst e
    simp
    omega
  · rw [if_neg e]
    by_cases h1 : i < j
    · have h2 : i < j + 1 := by omega
      simp [h1, h2]
    · have h2 : ¬ i < j + 1 := by omega
      simp only [h1, h2, if_false]
      congr 1
      simp
      omega

theorem victim_some (w : World) (c lb h h' i : Nat) (L L' : List Pl) (k : Clk w c lb L h) (hh : h < L.length ∨ L = []) (hv : vic (2 * L.length) L h = (L', h', some i)) :
    Calls Try.prog 11 #[.pointer (some ⟨c, 0, none⟩)] w (Ret (.tuple #[.int .i64 i, .bool true]) c lb L' h' w) := by
  have := victim_any w c lb h L k hh
  rw [hv] at this
  exact this
theorem victim_none (w : World) (c lb h h' : Nat) (L L' : List Pl) (k : Clk w c lb L h) (hh : h < L.length ∨ L = []) (hv : vic (2 * L.length) L h = (L', h', none)) :
    Calls Try.prog 11 #[.pointer (some ⟨c, 0, none⟩)] w (Ret (.tuple #[.int .i64 0, .bool false]) c lb L' h' w) := by
  have := victim_any w c lb h L k hh
  rw [hv] at this
  exact this

set_option maxHeartbeats 2000000 in
theorem known_any (w : World) : Calls Try.prog 12 #[] w fun e w' => e = .returned (.bool true) ∧ Below w.heap.size w w' := by
  go_enter Try.func12, Try.ntmps12
  go_wp2_with fail
  refine (new_ok _ 3 (by decide)).mono ?_
  rintro e w1 ⟨c, lb, rfl, k0, hb0, hc, hlb⟩
  go_wp2_with fail
  have hcl : w.heap.size < w1.heap.size := Nat.lt_of_le_of_lt hc k0.head.lt
  go_loopg [3] 3 (fun g s3 wr => ∃ j : Nat, j + g = 3 ∧ s3 = .int .i64 j ∧ Clk wr c lb (inL j 3) 0 ∧ Below w.heap.size w wr ∧ w1.heap.size ≤ wr.heap.size)
  case atStart => exact ⟨0, rfl, rfl, k0, hb0, Nat.le_refl _⟩
  case round =>
    obtain ⟨j, hj, rfl, k1, hb1, hsz⟩ := hrel
    cases gk with
    | zero =>
      obtain rfl : j = 3 := by omega
      clear hj k0 hb0
      have t0 : Blk (wr.alloc (.cells #[.int .i64 0] 3)) wr.heap.size 3 (ints ([0].map Int.ofNat)) := Blk.new wr 3 _
      go_wp2_with fail
      refine (touch_ok _ c lb 0 wr.heap.size _ [0] (k1.alloc _) t0 (by decide) ?_).mono ?_
      · intro i hi
        obtain rfl : i = 0 := by simpa using hi
        exact ⟨_, rfl, rfl⟩
      rintro e w2 ⟨rfl, k2, ho2⟩
      have hb2 := ho2.below (hb1.alloc (by omega) _) (by simp; omega) hc hlb
      have hs2 := ho2.size
      simp at hs2
      clear t0
      have e2 : touchL (inL 3 3) [0] = [⟨true, true, false⟩, ⟨true, false, false⟩, ⟨true, false, false⟩] := by decide
      rw [e2] at k2
      clear e2
      go_wp2_with fail
      refine (victim_some _ c lb 0 2 1 _ [⟨true, false, false⟩, ⟨true, false, false⟩, ⟨true, false, false⟩] k2 (Or.inl (by decide)) (by decide)).mono ?_
      rintro e w3 ⟨rfl, k3, ho3⟩
      clear k2
      go_wp2_with fail
      refine (victim_some _ c lb 2 0 2 _ [⟨true, false, false⟩, ⟨true, false, false⟩, ⟨true, false, false⟩] k3 (Or.inl (by decide)) (by decide)).mono ?_
      rintro e w4 ⟨rfl, k4, ho4⟩
      clear k3
      go_wp2_with fail
      refine (victim_some _ c lb 0 1 0 _ [⟨true, false, false⟩, ⟨true, false, false⟩, ⟨true, false, false⟩] k4 (Or.inl (by decide)) (by decide)).mono ?_
      rintro e w5 ⟨rfl, k5, ho5⟩
      clear k4
      go_wp2_with fail
      refine (pin_nil _ 0 true).mono ?_
      rintro e w' ⟨rfl, rfl⟩
      have t5 : Blk (w5.alloc (.cells #[.int .i64 0, .int .i64 3] 3)) w5.heap.size 3 (ints [0, 3]) := Blk.new w5 3 _
      have hb5 := (ho5.below (ho4.below (ho3.below hb2 (by omega) hc hlb) (by have := ho3.size; omega) hc hlb) (by have := ho3.size; have := ho4.size; omega) hc hlb)
      have hs5 : w.heap.size ≤ w5.heap.size := by have := ho3.size; have := ho4.size; have := ho5.size; omega
      go_wp2_with fail
      refine (touch_bad _ c lb 1 w5.heap.size 1 _ [0, 3] (k5.alloc _) t5 (by decide) (by decide) ?_ ?_).mono ?_
      · intro j i hj hi
        obtain rfl : j = 0 := by omega
        obtain rfl : 0 = i := by simpa using hi
        exact ⟨0, _, rfl, rfl, rfl⟩
      · intro i hi
        obtain rfl : 3 = i := by simpa using hi
        exact Or.inr (Or.inl (by decide))
      rintro e w6 ⟨rfl, k6, ho6⟩
      go_wp2_with fail
      go_ret
      exact ⟨rfl, ho6.below (hb5.alloc hs5 _) (by simp; omega) hc hlb⟩
    | succ g =>
      have hjn : (j : Int) < 3 := by omega
      clear k0 hb0
      go_wp2_with (go_at_call 9; refine (in_ok _ _ _ _ _ _ _ k1 (by rw [inL_length _ _ (by omega)]; omega)).mono ?_; rintro e w2 ⟨rfl, k2, ho2⟩)
      rw [inL_set j 3 (by omega)] at k2
      go_roundg g
      case measure => omega
      case rel => exact ⟨j + 1, by omega, by go_num, k2, ho2.below hb1 (by omega) hc hlb, by have := ho2.size; omega⟩

end Go.Proofs.Ytpekigmkmeapaaa
