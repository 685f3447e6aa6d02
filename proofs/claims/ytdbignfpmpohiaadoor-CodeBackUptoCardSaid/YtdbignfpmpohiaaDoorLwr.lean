/-
  The walk of CodeWrites: any things to do have the bytes that the chapter says, or none. Conditions: none.
-/
import Derived.Test.YtdbignfpmpohiaaDoorRby
import Derived.Test.YtdbignfpmpohiaaDoorPln
namespace Go.Proofs.YtdbignfpmpohiaaDoor
open Go.RowKit

theorem bytesF_vals (l : List O4) : ∀ v ∈ (bytesF l).1, 0 ≤ v ∧ v ≤ 255 := by
  induction l with
  | nil => intro v hv; simp [bytesF] at hv
  | cons o r ih =>
    rw [bytesF]
    split
    · intro v hv; simp at hv
    · rename_i bs hf
      split
      · intro v hv; simp at hv
      · split
        · intro v hv; simp at hv
        · intro v hv
          rcases List.mem_append.1 hv with h | h
          · exact (findM_some o bs hf).2 v h
          · exact ih v h

set_option maxRecDepth 100000 in
set_option maxHeartbeats 4000000 in
theorem codewrites_walk (w : World) (A : Option Addr) (l : List O4) (cap : Nat) (ht : Tabs w) (hA : OpsR w A l) :
    Calls Tryd.prog 5 #[.slice A l.length cap] w fun e w' => e = .returned (.bool true) ∧ Below w.heap.size w w' := by
  have HT := Lib.hid ht
  by_cases h : 12 < l.length
  · obtain ⟨n, hn⟩ : ∃ n, n = l.length := ⟨_, rfl⟩
    rw [← hn] at h ⊢
    clear hn hA ht
    go_enter Tryd.func5, Tryd.ntmps5
    go_wp2_with (go_at_call 11; refine (known_any _ HT.out).mono ?_; rintro e w6 ⟨rfl, hb6⟩)
    go_ret
    exact ⟨rfl, hb6⟩
  · have h1 := bytes_any w A l cap ht (by omega) hA
    have h2 := fun W hW => rbytes_any W A l cap (by omega) (hA.below (w' := W) hW)
    have hv := bytesF_vals l
    obtain ⟨r, hr⟩ : ∃ r, r = bytesF l := ⟨_, rfl⟩
    obtain ⟨n, hn⟩ : ∃ n, n = l.length := ⟨_, rfl⟩
    rw [← hn, ← hr] at h1
    simp only [← hn, ← hr] at h2
    rw [← hr] at hv
    rw [← hn] at h ⊢
    have H1 := Lib.hid h1
    have H2 := Lib.hid h2
    have HV := Lib.hid hv
    clear h1 h2 hr hn hA ht hv
    obtain ⟨bs, err⟩ := r
    go_enter Tryd.func5, Tryd.ntmps5
    go_wp2_with fail
    refine H1.out.mono ?_
    rintro e w2 ⟨v, rfl, hown, hb2, _⟩
    obtain ⟨A1, cap1, rfl, hlc, hc1, hB1⟩ := hown.reads HV.out
    have HB1 := Lib.hid hB1
    clear hown hB1
    go_wp2_with fail
    refine (H2.out _ hb2).mono ?_
    rintro e w3 ⟨v2, rfl, hown2, hb3, _⟩
    obtain ⟨A2, cap2, rfl, hlc2, hc2, hB2⟩ := hown2.reads HV.out
    have hb3' := hb2.trans (hb3.mono hb2.size)
    have HS := Lib.hid (same_bytes w3 A1 A2 bs cap1 cap2 (HB1.out.below hb3) hB2)
    clear hown2 hB2 hb3 hb2
    go_wp2_with fail
    refine HS.out.mono ?_
    rintro e w' ⟨rfl, rfl⟩
    go_wp2_with (go_at_call 11; refine (known_any _ (HT.out.keep hb3')).mono ?_; rintro e w9 ⟨rfl, hb17⟩)
    go_ret
    exact ⟨rfl, hb3'.trans (hb17.mono hb3'.size)⟩
end Go.Proofs.YtdbignfpmpohiaaDoor
