/-
  The walk of CodeJumps: whether the jumps of any bytes lead where something begins is what the chapter says. Conditions: none.
-/
import Derived.Test.YtdbignfpmpohiaaDoorRjm
import Derived.Test.YtdbignfpmpohiaaDoorKno
namespace Go.Proofs.YtdbignfpmpohiaaDoor
open Go.RowKit

set_option maxRecDepth 100000 in
set_option maxHeartbeats 2000000 in
theorem codejumps_walk (w : World) (A : Option Addr) (bs : List Int) (cap : Nat) (ht : Tabs w) (hcap : cap ≤ 9223372036854775807) (hlen : bs.length ≤ cap) (hB : Byts w A bs) :
    Calls Tryd.prog 7 #[.slice A bs.length cap] w fun e w' => e = .returned (.bool true) ∧ Below w.heap.size w w' := by
  have HT := Lib.hid ht
  by_cases h : 3000 < bs.length
  · obtain ⟨n, hn⟩ : ∃ n, n = bs.length := ⟨_, rfl⟩
    rw [← hn] at h hlen ⊢
    clear hn hB ht
    go_enter Tryd.func7, Tryd.ntmps7
    go_wp2_with (go_at_call 11; refine (known_any _ HT.out).mono ?_; rintro e w6 ⟨rfl, hb6⟩)
    go_ret
    exact ⟨rfl, hb6⟩
  · have h1 := jumps_any w A bs cap ht hcap hlen (by omega) hB
    have h2 := fun W hW => rjumps_any W A bs cap hcap hlen (by omega) (hB.below (w' := W) hW)
    obtain ⟨J, hJ⟩ : ∃ J, J = jumpsM bs := ⟨_, rfl⟩
    obtain ⟨n, hn⟩ : ∃ n, n = bs.length := ⟨_, rfl⟩
    rw [← hn, ← hJ] at h1
    simp only [← hn, ← hJ] at h2
    rw [← hn] at h hlen ⊢
    have H1 := Lib.hid h1
    have H2 := Lib.hid h2
    clear h1 h2 hJ hn hB ht
    cases J
    all_goals
      go_enter Tryd.func7, Tryd.ntmps7
      go_wp2_with fail
      refine H1.out.mono ?_
      rintro e w2 ⟨rfl, hb2⟩
      go_wp2_with fail
      refine (H2.out _ hb2).mono ?_
      rintro e w3 ⟨rfl, hb3⟩
      have hb3' := hb2.trans (hb3.mono hb2.size)
      go_wp2_with (go_at_call 11; refine (known_any _ (HT.out.keep hb3')).mono ?_; rintro e w6 ⟨rfl, hb6⟩)
      go_ret
      exact ⟨rfl, hb3'.trans (hb6.mono hb3'.size)⟩
end Go.Proofs.YtdbignfpmpohiaaDoor
