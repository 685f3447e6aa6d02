/-
  The contracts of package clock's functions.
-/
import Derived.Test.YtpekigmkmeapaaaClk
import Derived.Deep.QuietTactic
import Derived.BigQuiet
import Derived.RegionTactic
namespace Go.Proofs.Ytpekigmkmeapaaa
open Go.RowKit

set_option maxHeartbeats 400000 in
theorem at_ok (w : World) (c lb h : Nat) (L : List Pl) (i : Nat) (k : Clk w c lb L h) (hi : i < L.length) :
    Calls Try.prog 17 #[.pointer (some ⟨c, 0, none⟩), .int .i64 i, .bool false] w fun e w' => e = .returned (.tuple #[.pointer (some ⟨lb, i * 3, none⟩), .int .i64 0]) ∧ w = w' := by
  have h0 := k.c0
  have hs := k.size
  go_enter Try.func17, Try.ntmps17
  go_wp2
  go_ret2
  exact ⟨rfl, rfl⟩

set_option maxHeartbeats 400000 in
theorem open_any (w : World) (c lb h : Nat) (L : List Pl) (i : Nat) (x : Pl) (k : Clk w c lb L h) (hx : L[i]? = some x) :
    Calls Try.prog 18 #[.pointer (some ⟨lb, i * 3, none⟩)] w fun e w' => e = .returned (.bool (x.i && !x.p)) ∧ w = w' := by
  have h0 := k.bi hx
  have h1 := k.bp hx
  cases hxi : x.i
  all_goals
    rw [hxi] at h0
    clear hxi
    go_enter Try.func18, Try.ntmps18
    go_wp2
    go_ret
    exact ⟨by simp, rfl⟩

set_option maxHeartbeats 400000 in
theorem at_in (w : World) (c lb h : Nat) (L : List Pl) (i : Nat) (x : Pl) (k : Clk w c lb L h) (hx : L[i]? = some x) (hin : x.i = true) :
    Calls Try.prog 17 #[.pointer (some ⟨c, 0, none⟩), .int .i64 i, .bool true] w fun e w' => e = .returned (.tuple #[.pointer (some ⟨lb, i * 3, none⟩), .int .i64 0]) ∧ w = w' := by
  have hi : i < L.length := (List.getElem?_eq_some_iff.1 hx).1
  have h0 := k.c0
  have hs := k.size
  have hc := k.bi hx
  rw [hin] at hc
  clear hx hin
  go_enter Try.func17, Try.ntmps17
  go_wp2
  go_ret2
  exact ⟨rfl, rfl⟩

set_option maxHeartbeats 400000 in
theorem at_not (w : World) (c lb h : Nat) (L : List Pl) (i : Nat) (x : Pl) (k : Clk w c lb L h) (hx : L[i]? = some x) (hin : x.i = false) :
    Calls Try.prog 17 #[.pointer (some ⟨c, 0, none⟩), .int .i64 i, .bool true] w fun e w' => e = .returned (.tuple #[.pointer none, .int .i64 4]) ∧ w = w' := by
  have hi : i < L.length := (List.getElem?_eq_some_iff.1 hx).1
  have h0 := k.c0
  have hs := k.size
  have hc := k.bi hx
  rw [hin] at hc
  clear hx hin
  go_enter Try.func17, Try.ntmps17
  go_wp2
  go_ret2
  exact ⟨rfl, rfl⟩

set_option maxHeartbeats 400000 in
theorem at_none (w : World) (c lb h : Nat) (L : List Pl) (i : Int) (inn : Bool) (k : Clk w c lb L h) (hi : i < 0 ∨ (L.length : Int) ≤ i) :
    Calls Try.prog 17 #[.pointer (some ⟨c, 0, none⟩), .int .i64 i, .bool inn] w fun e w' => e = .returned (.tuple #[.pointer none, .int .i64 4]) ∧ w = w' := by
  have h0 := k.c0
  have hs := k.size
  by_cases hn : i < 0
  · clear hi
    go_enter Try.func17, Try.ntmps17
    go_wp2
    go_ret2
    exact ⟨rfl, rfl⟩
  · have hi' : (L.length : Int) ≤ i := by omega
    clear hi
    go_enter Try.func17, Try.ntmps17
    go_wp2
    go_ret2
    exact ⟨rfl, rfl⟩

set_option maxHeartbeats 400000 in
theorem at_nil (w : World) (i : Int) (inn : Bool) :
    Calls Try.prog 17 #[.pointer none, .int .i64 i, .bool inn] w fun e w' => e = .returned (.tuple #[.pointer none, .int .i64 1]) ∧ w = w' := by
  go_enter Try.func17, Try.ntmps17
  go_wp2
  go_ret2
  exact ⟨rfl, rfl⟩

/-- something is returned, the clock is as told, nothing else has turned -/
def Ret (v : Value) (c lb : Nat) (L : List Pl) (h : Nat) (w : World) (e : Ending) (w' : World) : Prop := e = .returned v ∧ Clk w' c lb L h ∧ Only c lb w w'

set_option maxHeartbeats 400000 in
theorem in_ok (w : World) (c lb h : Nat) (L : List Pl) (i : Nat) (on : Bool) (k : Clk w c lb L h) (hi : i < L.length) :
    Calls Try.prog 9 #[.pointer (some ⟨c, 0, none⟩), .int .i64 i, .bool on] w (Ret (.int .i64 0) c lb (L.set i ⟨on, false, false⟩) h w) := by
  have hx : L[i]? = some L[i] := List.getElem?_eq_getElem hi
  have h1 := k.bi hx
  have h2 := k.bt hx
  have h3 := k.bp hx
  have f1 := k.bf (i * 3)
  have f2 := k.bf (i * 3 + 1)
  have f3 := k.bf (i * 3 + 2)
  clear hx
  go_enter Try.func9, Try.ntmps9
  go_wp2_with (go_at_call 17; refine (at_ok _ _ _ _ _ _ k hi).mono ?_; rintro e w' ⟨rfl, rfl⟩)
  go_ret
  exact ⟨rfl, k.setAll hi ⟨on, false, false⟩, (((Only.refl c lb w).setB _ _).setB _ _).setB _ _⟩

set_option maxHeartbeats 400000 in
theorem in_none (w : World) (c lb h : Nat) (L : List Pl) (i : Int) (on : Bool) (k : Clk w c lb L h) (hi : i < 0 ∨ (L.length : Int) ≤ i) :
    Calls Try.prog 9 #[.pointer (some ⟨c, 0, none⟩), .int .i64 i, .bool on] w (Ret (.int .i64 4) c lb L h w) := by
  have H := Lib.hid hi
  clear hi
  go_enter Try.func9, Try.ntmps9
  go_wp2_with (go_at_call 17; refine (at_none _ _ _ _ _ _ _ k H.out).mono ?_; rintro e w' ⟨rfl, rfl⟩)
  go_ret
  exact ⟨rfl, k, Only.refl c lb w⟩

set_option maxHeartbeats 400000 in
theorem pin_ok (w : World) (c lb h : Nat) (L : List Pl) (i : Nat) (x : Pl) (on : Bool) (k : Clk w c lb L h) (hx : L[i]? = some x) (hin : x.i = true) :
    Calls Try.prog 10 #[.pointer (some ⟨c, 0, none⟩), .int .i64 i, .bool on] w (Ret (.int .i64 0) c lb (L.set i { x with p := on }) h w) := by
  have h3 := k.bp hx
  have f3 := k.bf (i * 3 + 2)
  have H := Lib.hid hx
  have H2 := Lib.hid hin
  clear hx hin
  go_enter Try.func10, Try.ntmps10
  go_wp2_with (go_at_call 17; refine (at_in _ _ _ _ _ _ _ k H.out H2.out).mono ?_; rintro e w' ⟨rfl, rfl⟩)
  go_ret
  exact ⟨rfl, k.setP H.out on, (Only.refl c lb w).setB _ _⟩

set_option maxHeartbeats 400000 in
theorem pin_not (w : World) (c lb h : Nat) (L : List Pl) (i : Nat) (x : Pl) (on : Bool) (k : Clk w c lb L h) (hx : L[i]? = some x) (hin : x.i = false) :
    Calls Try.prog 10 #[.pointer (some ⟨c, 0, none⟩), .int .i64 i, .bool on] w (Ret (.int .i64 4) c lb L h w) := by
  have H := Lib.hid hx
  have H2 := Lib.hid hin
  clear hx hin
  go_enter Try.func10, Try.ntmps10
  go_wp2_with (go_at_call 17; refine (at_not _ _ _ _ _ _ _ k H.out H2.out).mono ?_; rintro e w' ⟨rfl, rfl⟩)
  go_ret
  exact ⟨rfl, k, Only.refl c lb w⟩

set_option maxHeartbeats 400000 in
theorem pin_none (w : World) (c lb h : Nat) (L : List Pl) (i : Int) (on : Bool) (k : Clk w c lb L h) (hi : i < 0 ∨ (L.length : Int) ≤ i) :
    Calls Try.prog 10 #[.pointer (some ⟨c, 0, none⟩), .int .i64 i, .bool on] w (Ret (.int .i64 4) c lb L h w) := by
  have H := Lib.hid hi
  clear hi
  go_enter Try.func10, Try.ntmps10
  go_wp2_with (go_at_call 17; refine (at_none _ _ _ _ _ _ _ k H.out).mono ?_; rintro e w' ⟨rfl, rfl⟩)
  go_ret
  exact ⟨rfl, k, Only.refl c lb w⟩

set_option maxHeartbeats 400000 in
theorem pin_nil (w : World) (i : Int) (on : Bool) :
    Calls Try.prog 10 #[.pointer none, .int .i64 i, .bool on] w fun e w' => e = .returned (.int .i64 1) ∧ w = w' := by
  go_enter Try.func10, Try.ntmps10
  go_wp2_with (go_at_call 17; refine (at_nil _ _ _).mono ?_; rintro e w' ⟨rfl, rfl⟩)
  go_ret
  exact ⟨rfl, rfl⟩

set_option maxHeartbeats 400000 in
theorem hand_any (w : World) (c lb h : Nat) (L : List Pl) (k : Clk w c lb L h) :
    Calls Try.prog 13 #[.pointer (some ⟨c, 0, none⟩)] w fun e w' => e = .returned (.int .i64 h) ∧ w = w' := by
  have h0 := k.c1
  go_enter Try.func13, Try.ntmps13
  go_wp2
  go_ret
  exact ⟨rfl, rfl⟩

set_option maxHeartbeats 400000 in
theorem is_ok (w : World) (c lb h : Nat) (L : List Pl) (i : Nat) (x : Pl) (k : Clk w c lb L h) (hx : L[i]? = some x) :
    Calls Try.prog 15 #[.pointer (some ⟨c, 0, none⟩), .int .i64 i] w (Ret (.tuple #[.bool x.i, .bool x.t, .bool x.p]) c lb L h w) := by
  have hi : i < L.length := (List.getElem?_eq_some_iff.1 hx).1
  have h1 := k.bi hx
  have h2 := k.bt hx
  have h3 := k.bp hx
  clear hx
  go_enter Try.func15, Try.ntmps15
  go_wp2_with (go_at_call 17; refine (at_ok _ _ _ _ _ _ k hi).mono ?_; rintro e w' ⟨rfl, rfl⟩)
  go_quiet (fail)
  go_wp2
  go_ret3
  exact ⟨rfl, k.drewN _, (Only.refl c lb w).drewN _⟩

set_option maxHeartbeats 400000 in
theorem is_none (w : World) (c lb h : Nat) (L : List Pl) (i : Int) (k : Clk w c lb L h) (hi : i < 0 ∨ (L.length : Int) ≤ i) :
    Calls Try.prog 15 #[.pointer (some ⟨c, 0, none⟩), .int .i64 i] w (Ret (.tuple #[.bool false, .bool false, .bool false]) c lb L h w) := by
  have H := Lib.hid hi
  clear hi
  go_enter Try.func15, Try.ntmps15
  go_wp2_with (go_at_call 17; refine (at_none _ _ _ _ _ _ _ k H.out).mono ?_; rintro e w' ⟨rfl, rfl⟩)
  go_ret3
  exact ⟨rfl, k, Only.refl c lb w⟩

end Go.Proofs.Ytpekigmkmeapaaa
