/-
  The contract of websterlaw09.done: whatever is done, a clock stays a clock of as many places.
-/
import Derived.Test.YtpekigmkmeapaaaVop
namespace Go.Proofs.Ytpekigmkmeapaaa
open Go.RowKit

/-- some number is returned, and the clock is one of n places still -/
def AnyN (c lb n h : Nat) (w : World) (e : Ending) (w' : World) : Prop := ∃ (r : Int) (L' : List Pl), e = .returned (.int .i64 r) ∧ Clk w' c lb L' h ∧ L'.length = n ∧ Only c lb w w'

theorem in_any (w : World) (c lb h : Nat) (L : List Pl) (i : Int) (on : Bool) (k : Clk w c lb L h) :
    Calls Try.prog 9 #[.pointer (some ⟨c, 0, none⟩), .int .i64 i, .bool on] w (AnyN c lb L.length h w) := by
  by_cases hi : i < 0 ∨ (L.length : Int) ≤ i
  · exact (in_none w c lb h L i on k hi).mono fun e w' ⟨he, hk, ho⟩ => ⟨_, _, he, hk, rfl, ho⟩
  · obtain ⟨j, rfl⟩ : ∃ j : Nat, i = j := ⟨i.toNat, by omega⟩
    exact (in_ok w c lb h L j on k (by omega)).mono fun e w' ⟨he, hk, ho⟩ => ⟨_, _, he, hk, by simp, ho⟩

theorem good_or_bad (L : List Pl) (i : Int) : badAt L i ∨ ∃ (j : Nat) (x : Pl), i = j ∧ L[j]? = some x ∧ x.i = true := by
  by_cases hi : i < 0
  · exact Or.inl (Or.inl hi)
  · by_cases h2 : (L.length : Int) ≤ i
    · exact Or.inl (Or.inr (Or.inl h2))
    · obtain ⟨j, rfl⟩ : ∃ j : Nat, i = j := ⟨i.toNat, by omega⟩
      obtain ⟨x, hx⟩ : ∃ x, L[j]? = some x := ⟨_, List.getElem?_eq_getElem (by omega)⟩
      cases h : x.i with
      | false => exact Or.inl (Or.inr (Or.inr ⟨j, x, rfl, hx, h⟩))
      | true => exact Or.inr ⟨j, x, rfl, hx, h⟩

theorem pin_any (w : World) (c lb h : Nat) (L : List Pl) (i : Int) (on : Bool) (k : Clk w c lb L h) :
    Calls Try.prog 10 #[.pointer (some ⟨c, 0, none⟩), .int .i64 i, .bool on] w (AnyN c lb L.length h w) := by
  rcases good_or_bad L i with (h1 | h1 | ⟨j, x, rfl, hx, hi⟩) | ⟨j, x, rfl, hx, hi⟩
  · exact (pin_none w c lb h L i on k (Or.inl h1)).mono fun e w' ⟨he, hk, ho⟩ => ⟨_, _, he, hk, rfl, ho⟩
  · exact (pin_none w c lb h L i on k (Or.inr h1)).mono fun e w' ⟨he, hk, ho⟩ => ⟨_, _, he, hk, rfl, ho⟩
  · exact (pin_not w c lb h L j x on k hx hi).mono fun e w' ⟨he, hk, ho⟩ => ⟨_, _, he, hk, rfl, ho⟩
  · exact (pin_ok w c lb h L j x on k hx hi).mono fun e w' ⟨he, hk, ho⟩ => ⟨_, _, he, hk, by simp, ho⟩

theorem touch_any (w : World) (c lb h tb : Nat) (L : List Pl) (i : Int) (k : Clk w c lb L h) (ht : Blk w tb 3 #[.int .i64 i]) :
    Calls Try.prog 14 #[.pointer (some ⟨c, 0, none⟩), .slice (some ⟨tb, 0, none⟩) 1 1] w (AnyN c lb L.length h w) := by
  rcases good_or_bad L i with hb | ⟨j, x, rfl, hx, hi⟩
  · exact (touch_bad w c lb h tb 0 L [i] k ht (by simp) (by simp) (by intro j i hj; omega) (by intro y hy; simp at hy; subst hy; exact hb)).mono fun e w' ⟨he, hk, ho⟩ => ⟨_, _, he, hk, rfl, ho⟩
  · exact (touch_ok w c lb h tb L [j] k ht (by simp) (by intro q hq; obtain rfl : q = j := by simpa using hq
                                                         exact ⟨x, hx, hi⟩)).mono fun e w' ⟨he, hk, ho⟩ => ⟨_, _, he, hk, touchL_length _ _, ho⟩

/-- what 'done' leaves -/
def DonePost (c lb n : Nat) (w : World) (e : Ending) (w' : World) : Prop :=
  ∃ (a b d : Value) (L' : List Pl) (h' : Nat), e = .returned (.tuple #[a, b, d]) ∧ Clk w' c lb L' h' ∧ L'.length = n ∧ (h' < n ∨ n = 0) ∧ Only c lb w w'

theorem victim_keeps (w : World) (c lb h : Nat) (L : List Pl) (k : Clk w c lb L h) (hh : h < L.length ∨ L = []) :
    Calls Try.prog 11 #[.pointer (some ⟨c, 0, none⟩)] w fun e w' => ∃ (r : Int) (b : Bool) (L' : List Pl) (h' : Nat), e = .returned (.tuple #[.int .i64 r, .bool b]) ∧ Clk w' c lb L' h' ∧ L'.length = L.length ∧ (h' < L.length ∨ L.length = 0) ∧ Only c lb w w' := by
  refine (victim_any w c lb h L k hh).mono fun e w' ⟨he, hk, ho⟩ => ?_
  have hsh : ∃ (r : Int) (b : Bool), vicV (vic (2 * L.length) L h).2.2 = .tuple #[.int .i64 r, .bool b] := by
    cases (vic (2 * L.length) L h).2.2 with
    | none => exact ⟨0, false, rfl⟩
    | some i => exact ⟨i, true, rfl⟩
  obtain ⟨r, b, hv⟩ := hsh
  refine ⟨r, b, _, _, he.trans (by rw [hv]), hk, ?_⟩
  rcases hh with hh | rfl
  · have := vic_keeps (2 * L.length) L h hh
    exact ⟨this.1, Or.inl this.2.1, ho⟩
  · exact ⟨rfl, Or.inr rfl, ho⟩

set_option maxHeartbeats 4000000 in
theorem done_any (w : World) (c lb h : Nat) (L : List Pl) (kd i : Int) (k : Clk w c lb L h) (hh : h < L.length ∨ L.length = 0) :
    Calls Try.prog 16 #[.pointer (some ⟨c, 0, none⟩), .agg #[.int .i64 kd, .int .i64 i]] w (DonePost c lb L.length w) := by
  have HH := Lib.hid hh
  clear hh
  have k1 := k.alloc (.cells #[.int .i64 kd, .int .i64 i] 46)
  have o1 := (Only.refl c lb w).alloc (.cells #[.int .i64 kd, .int .i64 i] 46)
  by_cases h1 : kd = 1
  · subst h1
    go_enter Try.func16, Try.ntmps16
    go_wp2_with (go_at_call 9; refine (in_any _ _ _ _ _ _ _ k1).mono ?_; rintro e w2 ⟨r, L', rfl, k2, hl, ho⟩)
    go_ret3
    exact ⟨_, _, _, L', h, rfl, k2, hl, HH.out, o1.trans ho⟩
  by_cases h2 : kd = 2
  · subst h2
    go_enter Try.func16, Try.ntmps16
    go_wp2_with (go_at_call 9; refine (in_any _ _ _ _ _ _ _ k1).mono ?_; rintro e w2 ⟨r, L', rfl, k2, hl, ho⟩)
    go_ret3
    exact ⟨_, _, _, L', h, rfl, k2, hl, HH.out, o1.trans ho⟩
  by_cases h3 : kd = 3
  · subst h3
    have k2 := k1.alloc (.cells #[.int .i64 i] 3)
    have t2 := Blk.new (w.alloc (.cells #[.int .i64 3, .int .i64 i] 46)) 3 #[.int .i64 i]
    have o2 := o1.alloc (.cells #[.int .i64 i] 3)
    go_enter Try.func16, Try.ntmps16
    go_wp2_with fail
    refine (touch_any _ c lb h _ L i k2 (by simpa using t2)).mono ?_
    rintro e w2 ⟨r, L', rfl, k2, hl, ho⟩
    go_wp2
    go_ret3
    exact ⟨_, _, _, L', h, rfl, k2, hl, HH.out, o2.trans ho⟩
  by_cases h4 : kd = 4
  · subst h4
    go_enter Try.func16, Try.ntmps16
    go_wp2_with (go_at_call 10; refine (pin_any _ _ _ _ _ _ _ k1).mono ?_; rintro e w2 ⟨r, L', rfl, k2, hl, ho⟩)
    go_ret3
    exact ⟨_, _, _, L', h, rfl, k2, hl, HH.out, o1.trans ho⟩
  by_cases h5 : kd = 5
  · subst h5
    go_enter Try.func16, Try.ntmps16
    go_wp2_with (go_at_call 10; refine (pin_any _ _ _ _ _ _ _ k1).mono ?_; rintro e w2 ⟨r, L', rfl, k2, hl, ho⟩)
    go_ret3
    exact ⟨_, _, _, L', h, rfl, k2, hl, HH.out, o1.trans ho⟩
  have hz : h < L.length ∨ L = [] := by
    rcases HH.out with e | e
    · exact Or.inl e
    · exact Or.inr (List.eq_nil_of_length_eq_zero e)
  have HZ := Lib.hid hz
  clear hz
  go_enter Try.func16, Try.ntmps16
  go_wp2_with (go_at_call 11; refine (victim_keeps _ _ _ _ _ k1 HZ.out).mono ?_; rintro e w2 ⟨r, b, L', h', rfl, k2, hl, hh', ho⟩)
  go_ret3
  exact ⟨_, _, _, L', h', rfl, k2, hl, hh', o1.trans ho⟩
end Go.Proofs.Ytpekigmkmeapaaa
