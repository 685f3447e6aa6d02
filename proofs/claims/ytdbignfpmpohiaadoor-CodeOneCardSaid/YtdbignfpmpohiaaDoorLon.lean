/-
  The walk of CodeOne: of anything to do the bytes are what the chapter says, or there are none; and tell it. Conditions: none.
-/
import Derived.Test.YtdbignfpmpohiaaDoorLwr
namespace Go.Proofs.YtdbignfpmpohiaaDoor
open Go.RowKit

theorem bytesF_one (o : O4) (h : (bytesF [o]).2 = 0) : atM (bytesF [o]).1 0 = (⟨o.k, o.n, o.m, (bytesF [o]).1.length⟩, 0) := by
  rw [bytesF] at h ⊢
  split at h
  · simp at h
  · rename_i bs hf
    split at h
    · simp at h
    · rename_i hk
      rw [if_neg hk]
      have e : (bytesF ([] : List O4)).2 = 0 := rfl
      rw [if_neg (by simp [e])]
      have := one_at o bs hf
      simpa [bytesF] using this

set_option maxRecDepth 100000 in
set_option maxHeartbeats 4000000 in
theorem codeone_walk (w : World) (k n m : Int) (ht : Tabs w) :
    Calls Tryd.prog 10 #[.int .i64 k, .int .i64 n, .int .i64 m] w fun e w' => e = .returned (.bool true) ∧ Below w.heap.size w w' := by
  have HT := Lib.hid ht
  have h1 := bytes_any ((w.alloc (.cells #[.int .i64 k, .int .i64 n, .int .i64 m, .int .i64 0] 25)).alloc (.cells #[.int .i64 k, .int .i64 n, .int .i64 m, .int .i64 0] 25)) (some ⟨w.heap.size + 1, 0, none⟩) [⟨k, n, m, 0⟩] 1
    ((ht.alloc _).alloc _) (by simp) (OpsR.of_blk (Blk.new2 w _ 25 _))
  have h2 := fun (W : World) => rbytes_any (W.alloc (.cells #[.int .i64 k, .int .i64 n, .int .i64 m, .int .i64 0] 25)) (some ⟨W.heap.size, 0, none⟩) [⟨k, n, m, 0⟩] 1 (by simp) (OpsR.of_blk (Blk.new W 25 _))
  have hv := bytesF_vals [⟨k, n, m, 0⟩]
  have h0 := bytesF_err [⟨k, n, m, 0⟩]
  have h3 := bytesF_one ⟨k, n, m, 0⟩
  have ht2 := bytesF_two [⟨k, n, m, 0⟩]
  have b0 := (Blk.new w 25 #[.int .i64 k, .int .i64 n, .int .i64 m, .int .i64 0]).alloc (.cells #[.int .i64 k, .int .i64 n, .int .i64 m, .int .i64 0] 25)
  have hb0 := ((Below.refl w.heap.size w).alloc (Nat.le_refl _) (.cells #[.int .i64 k, .int .i64 n, .int .i64 m, .int .i64 0] 25)).alloc (by simp) (.cells #[.int .i64 k, .int .i64 n, .int .i64 m, .int .i64 0] 25)
  obtain ⟨r, hr⟩ : ∃ r, r = bytesF [⟨k, n, m, 0⟩] := ⟨_, rfl⟩
  simp only [← hr] at h1 h2 hv h0 h3 ht2
  have H1 := Lib.hid h1
  have H2 := Lib.hid h2
  have H3 := Lib.hid h3
  have HV := Lib.hid hv
  obtain ⟨bs, err⟩ := r
  clear h1 h2 h3 hr ht hv
  simp only at h0 ht2
  rcases ht2 with rfl | rfl
  · clear h0
    go_enter Tryd.func10, Tryd.ntmps10
    go_wp2_with fail
    refine H1.out.mono ?_
    rintro e w2 ⟨v, rfl, hown, hb2, _⟩
    obtain ⟨A1, cap1, rfl, hlc, hc1, hB1⟩ := hown.reads HV.out
    have hb2' := hb0.trans (hb2.mono hb0.size)
    have hsz2 := hb2'.size
    have b2 := b0.keep hb2
    have c0 := b2.cell 0
    have c1 := b2.cell 1
    have c2 := b2.cell 2
    have c3 := b2.cell 3
    simp at c0 c1 c2 c3
    have HB1 := Lib.hid hB1
    clear hown hB1 H1 b0 hb0 hb2 b2
    go_wp2_with fail
    refine (H2.out _).mono ?_
    rintro e w3 ⟨v2, rfl, hown2, hb3, _⟩
    obtain ⟨A2, cap2, rfl, hlc2, hc2, hB2⟩ := hown2.reads HV.out
    have hb23 := ((Below.refl w2.heap.size w2).alloc (Nat.le_refl _) (.cells #[.int .i64 k, .int .i64 n, .int .i64 m, .int .i64 0] 25)).trans (hb3.mono (by simp))
    have hb3' := hb2'.trans (hb23.mono hsz2)
    have hB13 := HB1.out.below hb23
    have h4 := cat_any w3 A1 bs cap1 0 (HT.out.keep hb3') hc1 hlc hB13
    have h5 : atM bs 0 = (⟨k, n, m, bs.length⟩, 0) := H3.out (by trivial)
    have hcv1 := fun (W : World) (hW : Below w3.heap.size w3 W) => conv_bytes W A1 bs cap1 (hB13.below hW)
    have hcv2 := fun (W : World) (hW : Below w3.heap.size w3 W) => conv_bytes W A2 bs cap2 (hB2.below hW)
    obtain ⟨q, hq⟩ : ∃ q, q = bs.length := ⟨_, rfl⟩
    obtain ⟨s, hs⟩ : ∃ s : ByteArray, s = ⟨(u8s bs).toArray⟩ := ⟨_, rfl⟩
    rw [h5, ← hq] at h4
    simp only [← hq, ← hs] at hcv1 hcv2
    rw [← hq] at hlc hlc2 ⊢
    have H4 := Lib.hid h4
    have CV1 := Lib.hid hcv1
    have CV2 := Lib.hid hcv2
    clear hown2 hb3 hb23 hb2' hsz2 c0 c1 c2 c3 hB13 h4 h5 H3 hB2 H2 HB1 HV hq hs hcv1 hcv2
    go_wp2_with fail
    refine H4.out.mono ?_
    rintro e w4 ⟨rfl, hb4⟩
    have cv1 := fun o1 => CV1.out (w4.alloc o1) (hb4.alloc hb4.size o1)
    have cv2 := fun o1 => CV2.out (w4.alloc o1) (hb4.alloc hb4.size o1)
    have hb5 := hb3'.trans (hb4.mono hb3'.size)
    have hb6 := hb5.alloc hb5.size (.cells #[.int .i64 k, .int .i64 n, .int .i64 m, .int .i64 q] 25)
    clear hb4 hb3' hb5 H4 CV1 CV2
    go_wp2_with fail
    refine (known_any _ (HT.out.keep hb6)).mono ?_
    rintro e w9 ⟨rfl, hb7⟩
    go_wp2
    go_ret
    exact ⟨rfl, hb6.trans (hb7.mono hb6.size)⟩
  · obtain rfl := h0 (by decide)
    clear h0
    go_enter Tryd.func10, Tryd.ntmps10
    go_wp2_with fail
    refine H1.out.mono ?_
    rintro e w2 ⟨v, rfl, hown, hb2, hnil⟩
    obtain rfl := hnil (by simp)
    have hb2' := hb0.trans (hb2.mono hb0.size)
    have hsz2 := hb2'.size
    have b2 := b0.keep hb2
    have c0 := b2.cell 0
    have c1 := b2.cell 1
    have c2 := b2.cell 2
    have c3 := b2.cell 3
    simp at c0 c1 c2 c3
    clear hown H1 b0 hb0 hb2 b2 hnil
    go_wp2_with fail
    refine (H2.out _).mono ?_
    rintro e w3 ⟨v2, rfl, hown2, hb3, hnil⟩
    obtain rfl := hnil (by simp)
    have hb23 := ((Below.refl w2.heap.size w2).alloc (Nat.le_refl _) (.cells #[.int .i64 k, .int .i64 n, .int .i64 m, .int .i64 0] 25)).trans (hb3.mono (by simp))
    have hb3' := hb2'.trans (hb23.mono hsz2)
    clear hown2 hb3 hb23 hb2' hsz2 c0 c1 c2 c3 hnil H2
    go_wp2_with fail
    refine (known_any _ (HT.out.keep hb3')).mono ?_
    rintro e w9 ⟨rfl, hb7⟩
    go_wp2
    go_ret
    exact ⟨rfl, hb3'.trans (hb7.mono hb3'.size)⟩
end Go.Proofs.YtdbignfpmpohiaaDoor
