/-
  The walk of ClockNew: of any size, but one that is too great, nothing is in a clock, and nobody has to go. Conditions: none.
-/
import Derived.Test.YtpekigmkmeapaaaKno
namespace Go.Proofs.Ytpekigmkmeapaaa
open Go.RowKit

theorem fresh_length (n : Nat) : (fresh n).length = n := by simp [fresh]
theorem fresh_get (n i : Nat) (h : i < n) : (fresh n)[i]? = some ⟨false, false, false⟩ := by simp [fresh, h]

theorem vic_fresh (n f h : Nat) (hn : 0 < n) (hh : h < n) : vic f (fresh n) h = (fresh n, (h + f) % n, none) := by
  induction f generalizing h with
  | zero => rw [vic, Nat.add_zero, Nat.mod_eq_of_lt hh]
  | succ f ih =>
    rw [vic, fresh_get n h hh, fresh_length]
    show vic f (fresh n) ((h + 1) % n) = _
    rw [ih _ (Nat.mod_lt _ hn), Nat.mod_add_mod]
    congr 3
    omega

theorem vic_fresh0 (n : Nat) : vic (2 * (fresh n).length) (fresh n) 0 = (fresh n, 0, none) := by
  rcases Nat.eq_zero_or_pos n with rfl | h
  · rfl
  · rw [fresh_length, vic_fresh n _ 0 h h, Nat.zero_add, Nat.mul_mod_left]

theorem fresh_bad (n : Nat) (i : Int) : badAt (fresh n) i := by
  by_cases h0 : i < 0
  · exact Or.inl h0
  · by_cases h1 : (n : Int) ≤ i
    · exact Or.inr (Or.inl (by rw [fresh_length]; exact h1))
    · exact Or.inr (Or.inr ⟨i.toNat, _, by omega, fresh_get n _ (by omega), rfl⟩)

theorem is_fresh (w : World) (c lb n : Nat) (i : Int) (k : Clk w c lb (fresh n) 0) :
    Calls Try.prog 15 #[.pointer (some ⟨c, 0, none⟩), .int .i64 i] w (Ret (.tuple #[.bool false, .bool false, .bool false]) c lb (fresh n) 0 w) := by
  rcases fresh_bad n i with h | h | ⟨j, x, rfl, hx, _⟩
  · exact is_none w c lb 0 _ i k (Or.inl h)
  · exact is_none w c lb 0 _ i k (Or.inr h)
  · have hj : j < n := by have := (List.getElem?_eq_some_iff.1 hx).1; rwa [fresh_length] at this
    exact is_ok w c lb 0 _ j ⟨false, false, false⟩ k (fresh_get n j hj)

theorem pin_fresh (w : World) (c lb n : Nat) (i : Int) (k : Clk w c lb (fresh n) 0) :
    Calls Try.prog 10 #[.pointer (some ⟨c, 0, none⟩), .int .i64 i, .bool true] w (Ret (.int .i64 4) c lb (fresh n) 0 w) := by
  rcases fresh_bad n i with h | h | ⟨j, x, rfl, hx, hi⟩
  · exact pin_none w c lb 0 _ i true k (Or.inl h)
  · exact pin_none w c lb 0 _ i true k (Or.inr h)
  · exact pin_not w c lb 0 _ j x true k hx hi

set_option maxHeartbeats 1000000 in
theorem new_walk_bad (n i : Int) (w : World) (hn : n < 0 ∨ 16384 < n) :
    Calls Try.prog 7 #[.int .i64 n, .int .i64 i] w fun e w' => e = .returned (.bool true) ∧ Below w.heap.size w w' := by
  have HN := Lib.hid hn
  by_cases h0 : n < 0
  all_goals
    (try have h1 : 16384 < n := by omega)
    clear hn
    go_enter Try.func7, Try.ntmps7
    go_wp2_with (first | (go_at_call 8; refine (new_bad _ _ HN.out).mono ?_; rintro e w' ⟨rfl, rfl⟩) | (go_at_call 12; refine (known_any _).mono ?_; rintro e w6 ⟨rfl, hb6⟩))
    go_ret
    exact ⟨rfl, hb6⟩

set_option maxHeartbeats 1000000 in
theorem new_walk_ok (n : Nat) (i : Int) (w : World) (hn : n ≤ 16384) :
    Calls Try.prog 7 #[.int .i64 n, .int .i64 i] w fun e w' => e = .returned (.bool true) ∧ Below w.heap.size w w' := by
  go_enter Try.func7, Try.ntmps7
  go_wp2_with fail
  refine (new_ok _ n hn).mono ?_
  rintro e w1 ⟨c, lb, rfl, k1, hb1, hc, hlb⟩
  have hs1 := hb1.size
  go_wp2_with fail
  refine (is_fresh _ c lb n i k1).mono ?_
  rintro e w2 ⟨rfl, k2, ho2⟩
  have hb2 := ho2.below hb1 hs1 hc hlb
  have hs2 := hb2.size
  clear k1 hb1 hs1 ho2
  go_wp2_with fail
  refine (victim_none _ c lb 0 0 _ _ k2 ?_ (vic_fresh0 n)).mono ?_
  · rcases Nat.eq_zero_or_pos n with rfl | h
    · exact Or.inr rfl
    · exact Or.inl (by rw [fresh_length]; exact h)
  rintro e w3 ⟨rfl, k3, ho3⟩
  have hb3 := ho3.below hb2 hs2 hc hlb
  have hs3 := hb3.size
  clear k2 hb2 hs2 ho3
  go_wp2_with fail
  refine (hand_any _ c lb 0 _ k3).mono ?_
  rintro e w' ⟨rfl, rfl⟩
  have t5 : Blk (w3.alloc (.cells #[.int .i64 i] 3)) w3.heap.size 3 (ints [i]) := Blk.new w3 3 _
  go_wp2_with fail
  refine (touch_bad _ c lb 0 w3.heap.size 0 _ [i] (k3.alloc _) t5 (by simp) (by simp) (by intro j i hj; omega) (fun y hy => fresh_bad n y)).mono ?_
  rintro e w6 ⟨rfl, k6, ho6⟩
  have hb6 := ho6.below (hb3.alloc hs3 _) (by simp; omega) hc hlb
  have hs6 := hb6.size
  clear k3 hb3 hs3 ho6 t5
  go_wp2_with fail
  refine (pin_fresh _ c lb n i k6).mono ?_
  rintro e w7 ⟨rfl, k7, ho7⟩
  have hb7 := ho7.below hb6 hs6 hc hlb
  have hs7 := hb7.size
  clear k6 hb6 hs6 ho7
  go_wp2_with (go_at_call 12; refine (known_any _).mono ?_; rintro e w8 ⟨rfl, hb8⟩)
  go_ret
  exact ⟨rfl, hb7.trans (hb8.mono hs7)⟩

theorem new_walk (n i : Int) (w : World) :
    Calls Try.prog 7 #[.int .i64 n, .int .i64 i] w fun e w' => e = .returned (.bool true) ∧ Below w.heap.size w w' := by
  by_cases h : n < 0 ∨ 16384 < n
  · exact new_walk_bad n i w h
  · obtain ⟨m, rfl⟩ : ∃ m : Nat, n = m := ⟨n.toNat, by omega⟩
    exact new_walk_ok m i w (by omega)
end Go.Proofs.Ytpekigmkmeapaaa
