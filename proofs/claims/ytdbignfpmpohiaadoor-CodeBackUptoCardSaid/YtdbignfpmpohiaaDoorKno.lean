/-
  The contract of websterlaw12.known: true, nothing old has turned.
-/
import Derived.Test.YtdbignfpmpohiaaDoorJmp
namespace Go.Proofs.YtdbignfpmpohiaaDoor
open Go.RowKit

theorem Byts.of_blk {w : World} {g : Nat} {bs : List Int} (h : Blk w g 5 (byteCells bs)) (hv : ∀ v ∈ bs, 0 ≤ v ∧ v ≤ 255) : Byts w (some ⟨g, 0, none⟩) bs := by
  intro j v hj
  obtain ⟨h1, h2⟩ := hv v (List.mem_of_getElem? hj)
  refine ⟨h1, h2, g, 0, rfl, h.lt, ?_⟩
  rw [Nat.zero_add, h.cell j]
  simp [byteCells, hj]
theorem Byts.nil (w : World) (A : Option Addr) : Byts w A [] := by intro j v hj; simp at hj
theorem OpsR.of_blk {w : World} {g : Nat} {l : List O4} (h : Blk w g 25 (opCells l).toArray) : OpsR w (some ⟨g, 0, none⟩) l := by
  intro j o ho
  obtain ⟨c0, c1, c2, c3⟩ := opCells_get l j o ho
  refine ⟨g, 0, rfl, h.lt, ?_, ?_, ?_, ?_⟩
  all_goals (rw [Nat.zero_add, h.cell]; simpa)

/-- what is owned can be read as bytes -/
theorem OwnsB.reads {w : World} {B : Nat} {v : Value} {l : List Int} (h : OwnsB w B v l) (hv : ∀ x ∈ l, 0 ≤ x ∧ x ≤ 255) : ∃ A cap, v = .slice A l.length cap ∧ l.length ≤ cap ∧ cap ≤ 9223372036854775807 ∧ Byts w A l := by
  rcases h.2 with ⟨rfl, h0⟩ | ⟨g, cap, cur, rfl, hg, hh, h1, h2, h3, h4⟩
  · have : l = [] := List.eq_nil_of_length_eq_zero h0
    subst this
    exact ⟨none, 0, rfl, by simp, by omega, Byts.nil _ _⟩
  · unfold maxLen at h2
    refine ⟨_, cap, rfl, h1, h2, fun j o ho => ?_⟩
    have hj := (List.getElem?_eq_some_iff.1 ho).1
    obtain ⟨k1, k2⟩ := hv o (List.mem_of_getElem? ho)
    refine ⟨k1, k2, g, 0, rfl, (Array.getElem?_eq_some_iff.1 hh).1, ?_⟩
    rw [Nat.zero_add, cell_of_row w g j cur 5 (0, 0) hh]
    have : (cur.toList.take (l.length * 1))[j]? = (l.map (Value.int .u8))[j]? := by rw [h4]
    rw [List.getElem?_take, if_pos (by omega), List.getElem?_map, ho] at this
    simpa using this

theorem all_known : allM [70, 128, 200] = ([⟨4, 6, 0, 1⟩, ⟨4, 8, 0, 2⟩], 0) := by decide +kernel
theorem bytes_known : bytesF [⟨4, 6, 0, 0⟩, ⟨4, 40, 0, 0⟩] = ([70, 128, 232], 0) := by decide +kernel
theorem bytes_known0 : bytesF [⟨0, 0, 0, 0⟩] = ([], 2) := by decide +kernel
theorem jumps_known : jumpsM [] = true := by decide +kernel

set_option maxRecDepth 100000 in
set_option maxHeartbeats 2000000 in
theorem known_any (w : World) (ht : Tabs w) : Calls Tryd.prog 11 #[] w fun e w' => e = .returned (.bool true) ∧ Below w.heap.size w w' := by
  have h1 := all_any _ (some ⟨w.heap.size, 0, none⟩) [70, 128, 200] 3 (ht.alloc (.cells #[.int .u8 70, .int .u8 128, .int .u8 200] 5)) (by decide) (by decide) (by decide) (Byts.of_blk (Blk.new w 5 _) (by decide))
  rw [all_known] at h1
  have hb0 := (Below.refl w.heap.size w).alloc (Nat.le_refl _) (.cells #[.int .u8 70, .int .u8 128, .int .u8 200] 5)
  have HT := Lib.hid ht
  clear ht
  go_enter Tryd.func11, Tryd.ntmps11
  go_wp2_with fail
  refine h1.mono ?_
  rintro e w1 ⟨v, rfl, hown, hb1, _⟩
  obtain ⟨A1, cap1, rfl, hlc, hc1, hops⟩ := hown.reads
  have hb1' := hb0.trans (hb1.mono (by simp))
  have hsz1 := hb1'.size
  have HOPS := Lib.hid hops
  have h2 := bytes_any _ (some ⟨w1.heap.size, 0, none⟩) [⟨4, 6, 0, 0⟩, ⟨4, 40, 0, 0⟩] 2 ((HT.out.keep hb1').alloc (.cells #[.int .i64 4, .int .i64 6, .int .i64 0, .int .i64 0, .int .i64 4, .int .i64 40, .int .i64 0, .int .i64 0] 25)) (by decide) (OpsR.of_blk (Blk.new w1 25 _))
  rw [bytes_known] at h2
  clear h1 hown hb1 hops hb0
  go_wp2_with fail
  refine h2.mono ?_
  rintro e w2 ⟨v2, rfl, hown2, hb2, _⟩
  have hb12 := ((Below.refl w1.heap.size w1).alloc (Nat.le_refl _) (.cells #[.int .i64 4, .int .i64 6, .int .i64 0, .int .i64 0, .int .i64 4, .int .i64 40, .int .i64 0, .int .i64 0] 25)).trans (hb2.mono (by simp))
  have hops2 := HOPS.out.below hb12
  have hb2' := hb1'.trans (hb12.mono hsz1)
  have hsz2 := hb2'.size
  obtain ⟨A2, cap2, rfl, hlc2, hc2, hB2⟩ := hown2.reads (by decide)
  have h3 := bytes_any _ (some ⟨w2.heap.size, 0, none⟩) [⟨0, 0, 0, 0⟩] 1 ((HT.out.keep hb2').alloc (.cells #[.int .i64 0, .int .i64 0, .int .i64 0, .int .i64 0] 25)) (by decide) (OpsR.of_blk (Blk.new w2 25 _))
  rw [bytes_known0] at h3
  have HO2 := Lib.hid hops2
  have HB2 := Lib.hid hB2
  clear h2 hown2 hb2 hb12 hops2 hB2 hb1' hsz1
  go_wp2_with fail
  refine h3.mono ?_
  rintro e w3 ⟨v3, rfl, hown3, hb3, hnil⟩
  obtain rfl := hnil (by decide)
  have hb23 := ((Below.refl w2.heap.size w2).alloc (Nat.le_refl _) (.cells #[.int .i64 0, .int .i64 0, .int .i64 0, .int .i64 0] 25)).trans (hb3.mono (by simp))
  have hops3 := HO2.out.below hb23
  have hB3 := HB2.out.below hb23
  have hb3' := hb2'.trans (hb23.mono hsz2)
  have hsz3 := hb3'.size
  obtain ⟨b0, off0, rfl, hl0, c0, c1, c2, c3⟩ := hops3 0 _ rfl
  obtain ⟨b0', off0', hA', _, d0, d1, d2, d3⟩ := hops3 1 _ rfl
  obtain ⟨rfl, rfl⟩ : b0 = b0' ∧ off0 = off0' := by simpa using hA'
  have h4 := fun (W : World) (hW : Below w3.heap.size w3 W) (hB : Byts W (some ⟨w3.heap.size, 0, none⟩) [70, 128, 232]) => same_bytes W A2 (some ⟨w3.heap.size, 0, none⟩) [70, 128, 232] cap2 3 (hB3.below hW) hB
  have H4 := Lib.hid h4
  have h5 := fun (W : World) (hW : Tabs W) => jumps_any W none [] 0 hW (by decide) (by decide) (by decide) (Byts.nil _ _)
  have H5 := Lib.hid h5
  have HT3 := Lib.hid (HT.out.keep hb3')
  clear h3 hown3 hb3 hb23 hops3 hB3 hb2' hsz2 hnil h4 h5 hA'
  simp at c0 c1 c2 c3 d0 d1 d2 d3
  have hbx := (Below.refl w3.heap.size w3).alloc (Nat.le_refl _) (.cells #[.int .u8 70, .int .u8 128, .int .u8 232] 5)
  go_wp2_with fail
  refine (H4.out _ hbx (Byts.of_blk (Blk.new w3 5 _) (by decide))).mono ?_
  rintro e w' ⟨rfl, rfl⟩
  go_wp2_with fail
  refine (H5.out _ (HT3.out.alloc _)).mono ?_
  rintro e w5 ⟨rfl, hb5⟩
  rw [jumps_known]
  go_wp2
  go_ret
  exact ⟨rfl, (hb3'.trans (hbx.mono hsz3)).trans (hb5.mono (by simp; omega))⟩
end Go.Proofs.YtdbignfpmpohiaaDoor
