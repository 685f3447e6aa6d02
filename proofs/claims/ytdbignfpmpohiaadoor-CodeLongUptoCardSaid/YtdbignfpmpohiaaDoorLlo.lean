/-
  The walk of CodeLong: what is told one behind the other has together as many bytes as there are; each is told at its place. Condition: at most 4194304 bytes.
-/
import Derived.Test.YtdbignfpmpohiaaDoorKno
import Derived.Test.YtdbignfpmpohiaaDoorPln
namespace Go.Proofs.YtdbignfpmpohiaaDoor
open Go.RowKit

set_option maxRecDepth 100000 in
set_option maxHeartbeats 4000000 in
theorem codelong_walk (w : World) (A : Option Addr) (bs : List Int) (cap : Nat) (ht : Tabs w) (hcap : cap ≤ 9223372036854775807) (hlen : bs.length ≤ cap) (hbig : bs.length ≤ 4194304) (hB : Byts w A bs) :
    Calls Tryd.prog 8 #[.slice A bs.length cap] w fun e w' => e = .returned (.bool true) ∧ Below w.heap.size w w' := by
  have HT := Lib.hid ht
  have h1 := all_any w A bs cap ht hcap hlen hbig hB
  have hat := fun W (hW : Below w.heap.size w W) i => cat_any W A bs cap i (HT.out.keep hW) hcap hlen (hB.below hW)
  have hfacts := allM_facts bs hB.vals
  have hpl := allM_at bs
  obtain ⟨n, hn⟩ : ∃ n, n = bs.length := ⟨_, rfl⟩
  obtain ⟨r, hr⟩ : ∃ r, r = allM bs := ⟨_, rfl⟩
  rw [← hr, ← hn] at h1
  simp only [← hr, ← hn] at hat hpl hfacts
  rw [← hn] at hlen hbig ⊢
  have H1 := Lib.hid h1
  have HAT := Lib.hid hat
  have HPL := Lib.hid hpl
  have HF := Lib.hid hfacts
  obtain ⟨l, err⟩ := r
  clear h1 hr hat hpl hfacts hn ht hB
  go_enter Tryd.func8, Tryd.ntmps8
  go_wp2_with fail
  refine H1.out.mono ?_
  rintro e w2 ⟨v, rfl, hown, hb2, _⟩
  obtain ⟨A1, cap1, rfl, hlc, hc1, hops⟩ := hown.reads
  have HO := Lib.hid hops
  clear hown hops H1
  by_cases h3 : 3000 < n
  · have h3' : decide ((3000 : Int) < n) = true := by simp; omega
    clear HO HAT HPL HF
    go_wp2_with (go_at_call 11; refine (known_any _ (HT.out.keep hb2)).mono ?_; rintro e w6 ⟨rfl, hb6⟩)
    go_ret
    exact ⟨rfl, hb2.trans (hb6.mono hb2.size)⟩
  by_cases he : err = 0
  case neg =>
    have he' : (err != 0) = true := by simpa using he
    clear HO HAT HPL HF
    go_wp2_with (go_at_call 11; refine (known_any _ (HT.out.keep hb2)).mono ?_; rintro e w6 ⟨rfl, hb6⟩)
    go_ret
    exact ⟨rfl, hb2.trans (hb6.mono hb2.size)⟩
  subst he
  obtain ⟨hf1, hf2⟩ := HF.out rfl
  have hkl := length_le_lens l hf1
  obtain ⟨k, hk⟩ : ∃ k, k = l.length := ⟨_, rfl⟩
  have hlast : posN l k = n := by rw [posN_all l k (by omega)]; exact hf2
  simp only at hlc hlast hkl ⊢
  rw [← hk] at hkl hlc ⊢
  have hkn : k ≤ n := by omega
  have HF1 := Lib.hid hf1
  have HF2 := Lib.hid hf2
  have HK := Lib.hid hk
  have HL := Lib.hid hlast
  clear hf1 hf2 hk hkl hlast HF
  go_wp2_with fail
  go_loopg [5, 6] k (fun g s5 s6 wr => ∃ i : Nat, i + g = k ∧ s6 = .int .i64 i ∧ s5 = .int .i64 (posN l i) ∧ Below w.heap.size w wr ∧ Below w2.heap.size w2 wr)
  case atStart => exact ⟨0, by omega, rfl, rfl, hb2, Below.refl _ _⟩
  case round =>
    obtain ⟨i, hi, rfl, rfl, hb3, hb32⟩ := hrel
    have hsz3 := hb3.size
    cases gk with
    | zero =>
      have hin : ¬ ((i : Int) < k) := by omega
      obtain rfl : i = k := by omega
      rw [HL.out]
      clear HO HAT HPL HL hb32
      go_wp2_with (go_at_call 11; refine (known_any _ (HT.out.keep hb3)).mono ?_; rintro e w6 ⟨rfl, hb6⟩)
      go_ret
      exact ⟨rfl, hb3.trans (hb6.mono hsz3)⟩
    | succ g =>
      have hij : (i : Int) < k := by omega
      have hil : i < l.length := by have := HK.out; omega
      obtain ⟨o, ho⟩ : ∃ o, l[i]? = some o := ⟨_, List.getElem?_eq_getElem hil⟩
      obtain ⟨hl1, hl2, _, _⟩ := HF1.out o (List.mem_of_getElem? ho)
      have hp := posN_next l i o ho
      have hple2 := posN_le l (i + 1)
      have hpn : lens l = n := HF2.out
      rw [hpn] at hple2
      obtain ⟨q, hq⟩ : ∃ q : Nat, o.l = q := ⟨o.l.toNat, by omega⟩
      have hp' : posN l (i + 1) = posN l i + q := by rw [hp, hq]; rfl
      have hpn2 : posN l i + q ≤ n := by omega
      have hq1 : 1 ≤ q := by omega
      have HP := Lib.hid hp'
      have hat := HAT.out wr hb3 (posN l i : Int)
      have hpos := HPL.out (by trivial) i o ho
      have e1 : atM bs (posN l i : Int) = (o, 0) := by rw [atM, if_neg (by omega), Int.toNat_natCast]; exact hpos
      rw [e1] at hat
      have HAT1 := Lib.hid hat
      have hops3 := HO.out.below hb32
      obtain ⟨o1, o2, o3, o4⟩ := o
      simp only at hq
      subst hq
      have HOP := Lib.hid hops3
      have HI := Lib.hid ho
      clear hp hp' hple2 hpn hat hpos e1 hops3 ho hl1 hl2 hil
      go_wp2_with fail
      refine HAT1.out.mono ?_
      rintro e w4 ⟨rfl, hb4⟩
      obtain ⟨b, off, rfl, hbl, c0, c1, c2, c3⟩ := HOP.out i _ HI.out
      have d0 := fun o1 => ((hb4.alloc hb4.size o1).cell (p := ⟨b, off + i * 4, none⟩) hbl).trans c0
      have d1 := fun o1 => ((hb4.alloc hb4.size o1).cell (p := ⟨b, off + i * 4 + 1, none⟩) hbl).trans c1
      have d2 := fun o1 => ((hb4.alloc hb4.size o1).cell (p := ⟨b, off + i * 4 + 2, none⟩) hbl).trans c2
      have d3 := fun o1 => ((hb4.alloc hb4.size o1).cell (p := ⟨b, off + i * 4 + 3, none⟩) hbl).trans c3
      have hb5 := hb3.trans (hb4.mono hsz3)
      have hb52 := hb32.trans (hb4.mono hb32.size)
      clear hb4 hb3 hb32 HAT1 c0 c1 c2 c3
      have hb6 := hb5.alloc hb5.size (.cells #[.int .i64 o1, .int .i64 o2, .int .i64 o3, .int .i64 q] 25)
      have hb62 := hb52.alloc hb52.size (.cells #[.int .i64 o1, .int .i64 o2, .int .i64 o3, .int .i64 q] 25)
      clear hb5 hb52
      go_wp2_with fail
      go_quiet (fail)
      go_wp2
      go_roundg g
      case measure => omega
      case rel => exact ⟨i + 1, by omega, by go_num, by rw [HP.out]; go_num, ⟨hb6.os, hb6.tape, hb6.output, hb6.size, hb6.block⟩, ⟨hb62.os, hb62.tape, hb62.output, hb62.size, hb62.block⟩⟩
end Go.Proofs.YtdbignfpmpohiaaDoor
