/-
  The walk of CodeReads: any bytes tell, at any place, and one behind the other, what the chapter says, or nothing. Conditions: none.
-/
import Derived.Test.YtdbignfpmpohiaaDoorRjm
import Derived.Test.YtdbignfpmpohiaaDoorKno
namespace Go.Proofs.YtdbignfpmpohiaaDoor
open Go.RowKit

set_option maxRecDepth 100000 in
set_option maxHeartbeats 4000000 in
theorem codereads_walk (w : World) (A : Option Addr) (bs : List Int) (cap : Nat) (i : Int) (ht : Tabs w) (hcap : cap ≤ 9223372036854775807) (hlen : bs.length ≤ cap) (hB : Byts w A bs) :
    Calls Tryd.prog 3 #[.slice A bs.length cap, .int .i64 i] w fun e w' => e = .returned (.bool true) ∧ Below w.heap.size w w' := by
  have HT := Lib.hid ht
  by_cases h : 3000 < bs.length
  · obtain ⟨n, hn⟩ : ∃ n, n = bs.length := ⟨_, rfl⟩
    rw [← hn] at h hlen ⊢
    clear hn hB ht
    go_enter Tryd.func3, Tryd.ntmps3
    go_wp2_with (go_at_call 11; refine (known_any _ HT.out).mono ?_; rintro e w6 ⟨rfl, hb6⟩)
    go_ret
    exact ⟨rfl, hb6⟩
  · have h1 := cat_any w A bs cap i ht hcap hlen hB
    have h2 := fun W hW => rat_any W A bs cap i hcap hlen (hB.below (w' := W) hW)
    have h3 := fun W hW => all_any W A bs cap (ht.keep (w' := W) hW) hcap hlen (by omega) (hB.below (w' := W) hW)
    have h4 := fun W hW => rall_any W A bs cap hcap hlen (by omega) (hB.below (w' := W) hW)
    have h5 := fun W hW => jumps_any W A bs cap (ht.keep (w' := W) hW) hcap hlen (by omega) (hB.below (w' := W) hW)
    have h6 := fun W hW => rjumps_any W A bs cap hcap hlen (by omega) (hB.below (w' := W) hW)
    have hv := hB.vals
    have hl : (allM bs).1.length ≤ 9223372036854775807 := by
      by_cases he : (allM bs).2 = 0
      · obtain ⟨f1, f2⟩ := allM_facts bs hv he
        have := length_le_lens _ f1
        omega
      · have : (allM bs).1 = [] := allF_err bs _ _ he
        rw [this]; simp
    clear hv
    obtain ⟨J, hJ⟩ : ∃ J, J = jumpsM bs := ⟨_, rfl⟩
    obtain ⟨r, hr⟩ : ∃ r, r = atM bs i := ⟨_, rfl⟩
    obtain ⟨a, ha⟩ : ∃ a, a = allM bs := ⟨_, rfl⟩
    obtain ⟨n, hn⟩ : ∃ n, n = bs.length := ⟨_, rfl⟩
    rw [← hn, ← hr] at h1
    rw [← ha] at hl
    simp only [← hn, ← hr, ← hJ, ← ha] at h2 h3 h4 h5 h6
    rw [← hn] at h hlen ⊢
    have H1 := Lib.hid h1
    have H2 := Lib.hid h2
    have H3 := Lib.hid h3
    have H4 := Lib.hid h4
    have H5 := Lib.hid h5
    have H6 := Lib.hid h6
    clear h1 h2 h3 h4 h5 h6 hJ hn hB ht hr ha
    obtain ⟨l, err⟩ := a
    simp only at hl
    go_enter Tryd.func3, Tryd.ntmps3
    go_wp2_with fail
    refine H1.out.mono ?_
    rintro e w2 ⟨rfl, hb2⟩
    have bo := Blk.new w2 25 #[.int .i64 r.1.k, .int .i64 r.1.n, .int .i64 r.1.m, .int .i64 r.1.l]
    have hb3 := hb2.alloc hb2.size (.cells #[.int .i64 r.1.k, .int .i64 r.1.n, .int .i64 r.1.m, .int .i64 r.1.l] 25)
    clear hb2
    go_wp2_with fail
    refine (H2.out _ hb3).mono ?_
    rintro e w3 ⟨rfl, hb4⟩
    have bo3 := bo.keep hb4
    have bo4 := bo3.alloc (.cells #[.int .i64 r.1.k, .int .i64 r.1.n, .int .i64 r.1.m, .int .i64 r.1.l] 25)
    have bp4 := Blk.new w3 25 #[.int .i64 r.1.k, .int .i64 r.1.n, .int .i64 r.1.m, .int .i64 r.1.l]
    have hb5 := (hb3.trans (hb4.mono hb3.size))
    have hb6 := hb5.alloc hb5.size (.cells #[.int .i64 r.1.k, .int .i64 r.1.n, .int .i64 r.1.m, .int .i64 r.1.l] 25)
    clear bo bo3 hb3 hb4 hb5
    go_wp2_with fail
    refine (H3.out _ hb6).mono ?_
    rintro e w4 ⟨v, rfl, hown, hb7, _⟩
    obtain ⟨A1, cap1, rfl, hlc, hc1, hops⟩ := hown.reads
    have bo5 := bo4.keep hb7
    have bp5 := bp4.keep hb7
    have hb8 := hb6.trans (hb7.mono hb6.size)
    have HO := Lib.hid hops
    clear hown hb6 hb7 bo4 bp4 hops
    go_wp2_with fail
    refine (H4.out _ hb8).mono ?_
    rintro e w5 ⟨v2, rfl, hown2, hb9, _⟩
    obtain ⟨A2, cap2, rfl, hlc2, hc2, hops2⟩ := hown2.reads
    have bo6 := bo5.keep hb9
    have bp6 := bp5.keep hb9
    have hb10 := hb8.trans (hb9.mono hb8.size)
    have hsame := same_ops w5 A1 A2 l cap1 cap2 hl (HO.out.below hb9) hops2
    have HS := Lib.hid hsame
    have o0 := bo6.cell 0
    have o1 := bo6.cell 1
    have o2 := bo6.cell 2
    have o3 := bo6.cell 3
    have q0 := bp6.cell 0
    have q1 := bp6.cell 1
    have q2 := bp6.cell 2
    have q3 := bp6.cell 3
    simp at o0 o1 o2 o3 q0 q1 q2 q3
    clear hown2 hb8 hb9 bo5 bp5 bo6 bp6 hops2 hsame HO
    go_wp2_with fail
    refine HS.out.mono ?_
    rintro e w6 ⟨rfl, hb11⟩
    have hb12 := hb10.trans (hb11.mono hb10.size)
    clear hb11 hb10 o0 o1 o2 o3 q0 q1 q2 q3 HS
    cases J
    all_goals
      go_wp2_with fail
      refine (H5.out _ hb12).mono ?_
      rintro e w7 ⟨rfl, hb13⟩
      have hb14 := hb12.trans (hb13.mono hb12.size)
      go_wp2_with fail
      refine (H6.out _ hb14).mono ?_
      rintro e w8 ⟨rfl, hb15⟩
      have hb16 := hb14.trans (hb15.mono hb14.size)
      go_wp2_with (go_at_call 11; refine (known_any _ (HT.out.keep hb16)).mono ?_; rintro e w9 ⟨rfl, hb17⟩)
      go_ret
      exact ⟨rfl, hb16.trans (hb17.mono hb16.size)⟩
end Go.Proofs.YtdbignfpmpohiaaDoor
