/-
  The contract of websterref12.tells.
-/
import Derived.Test.YtdbignfpmpohiaaDoorRjm
import Derived.Test.YtdbignfpmpohiaaDoorKno
import Derived.Test.YtdbignfpmpohiaaDoorTls
namespace Go.Proofs.YtdbignfpmpohiaaDoor
open Go.RowKit

set_option maxRecDepth 100000 in
set_option maxHeartbeats 4000000 in
theorem tells_any (w : World) (A : Option Addr) (bs : List Int) (cap : Nat) (o : O4) (hcap : cap ≤ 9223372036854775807) (hlen : bs.length ≤ cap) (hB : Byts w A bs) :
    Calls Tryd.prog 31 #[.slice A bs.length cap, .agg #[.int .i64 o.k, .int .i64 o.n, .int .i64 o.m, .int .i64 o.l]] w fun e w' => e = .returned (.bool (tellsM bs o)) ∧ Below w.heap.size w w' := by
  have b0 := Blk.new w 25 #[.int .i64 o.k, .int .i64 o.n, .int .i64 o.m, .int .i64 o.l]
  have hb0 := (Below.refl w.heap.size w).alloc (Nat.le_refl _) (.cells #[.int .i64 o.k, .int .i64 o.n, .int .i64 o.m, .int .i64 o.l] 25)
  have hat := rat_any _ A bs cap 0 hcap hlen (hB.alloc (.cells #[.int .i64 o.k, .int .i64 o.n, .int .i64 o.m, .int .i64 o.l] 25))
  obtain ⟨n, hn⟩ : ∃ n, n = bs.length := ⟨_, rfl⟩
  obtain ⟨R, hR⟩ : ∃ R, R = tellsM bs o := ⟨_, rfl⟩
  obtain ⟨r, hr⟩ : ∃ r, r = atM bs 0 := ⟨_, rfl⟩
  rw [← hR]
  rw [tellsM, ← hr, ← hn] at hR
  rw [← hr, ← hn] at hat
  rw [← hn]
  obtain ⟨x, err⟩ := r
  simp only at hR
  have HAT := Lib.hid hat
  clear hat hr hn hB hlen
  have hcs : (err == 0) = false ∨ ((err == 0) = true ∧ (x.l == (n : Int)) = false) ∨ ((err == 0) = true ∧ (x.l == (n : Int)) = true ∧ (x.k == o.k) = false) ∨
      ((err == 0) = true ∧ (x.l == (n : Int)) = true ∧ (x.k == o.k) = true ∧ (x.n == o.n) = false) ∨
      ((err == 0) = true ∧ (x.l == (n : Int)) = true ∧ (x.k == o.k) = true ∧ (x.n == o.n) = true ∧ (x.m == o.m) = false) ∨
      ((err == 0) = true ∧ (x.l == (n : Int)) = true ∧ (x.k == o.k) = true ∧ (x.n == o.n) = true ∧ (x.m == o.m) = true) := by
    cases err == 0 <;> cases x.l == (n : Int) <;> cases x.k == o.k <;> cases x.n == o.n <;> cases x.m == o.m <;> simp
  rcases hcs with h1 | ⟨h1, h2⟩ | ⟨h1, h2, h3⟩ | ⟨h1, h2, h3, h4⟩ | ⟨h1, h2, h3, h4, h5⟩ | ⟨h1, h2, h3, h4, h5⟩
  case inr.inr.inr.inr.inr =>
    obtain rfl : R = true := by rw [hR, h1, h2, h3, h4, h5]; rfl
    clear hR
    go_enter Tryd.func31, Tryd.ntmps31
    go_wp2_with fail
    refine HAT.out.mono ?_
    rintro e w2 ⟨rfl, hb2⟩
    have b2 := b0.keep hb2
    have hb2' := hb0.trans (hb2.mono (by simp))
    have hlt := b2.lt
    have c0 := fun o1 => (b2.alloc o1).cell 0
    have c1 := fun o1 => (b2.alloc o1).cell 1
    have c2 := fun o1 => (b2.alloc o1).cell 2
    simp at c0 c1 c2
    clear hb2 b0 hb0 HAT b2
    go_wp2
    go_ret
    exact ⟨rfl, hb2'.alloc (by omega) _⟩
  all_goals
    obtain rfl : R = false := by first | (rw [hR, h1]; rfl) | (rw [hR, h1, h2]; rfl) | (rw [hR, h1, h2, h3]; rfl) | (rw [hR, h1, h2, h3, h4]; rfl) | (rw [hR, h1, h2, h3, h4, h5]; rfl)
    clear hR
    go_enter Tryd.func31, Tryd.ntmps31
    go_wp2_with fail
    refine HAT.out.mono ?_
    rintro e w2 ⟨rfl, hb2⟩
    have b2 := b0.keep hb2
    have hb2' := hb0.trans (hb2.mono (by simp))
    have hlt := b2.lt
    have c0 := fun o1 => (b2.alloc o1).cell 0
    have c1 := fun o1 => (b2.alloc o1).cell 1
    have c2 := fun o1 => (b2.alloc o1).cell 2
    simp at c0 c1 c2
    clear hb2 b0 hb0 HAT b2
    go_wp2
    go_ret
    exact ⟨rfl, hb2'.alloc (by omega) _⟩
end Go.Proofs.YtdbignfpmpohiaaDoor
