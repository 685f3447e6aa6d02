/-
  The walk of CodeBack: things to do are read from their bytes as they were; what bytes tell is written in no more bytes, and tells the same. Condition: at most 4194304 bytes.
-/
import Derived.Test.YtdbignfpmpohiaaDoorLwr
namespace Go.Proofs.YtdbignfpmpohiaaDoor
open Go.RowKit

/-- is one of the first i bad? -/
def badN (l : List O4) (i : Nat) : Bool := (l.take i).any fun o => o.k == 0
theorem badN_next (l : List O4) (i : Nat) (o : O4) (h : l[i]? = some o) : badN l (i + 1) = (badN l i || o.k == 0) := by
  have hi := (List.getElem?_eq_some_iff.1 h).1
  rw [badN, List.take_succ_eq_append_getElem hi, badN]
  rw [List.getElem?_eq_getElem hi] at h
  injection h with h
  simp [h]
theorem badN_all (l : List O4) (h : badN l l.length = false) : ∀ o ∈ l, o.k ≠ 0 := by
  rw [badN, List.take_length] at h
  intro o ho hk
  have := List.any_eq_false.1 h o ho
  simp [hk] at this
theorem badN_some (l : List O4) (h : badN l l.length = true) : bytesF l = ([], 2) := by
  rw [badN, List.take_length] at h
  obtain ⟨o, ho, hk⟩ := List.any_eq_true.1 h
  exact bytesF_bad l o ho (by simpa using hk)

set_option maxRecDepth 100000 in
set_option maxHeartbeats 2000000 in
theorem codeback_walk (w : World) (A : Option Addr) (bs : List Int) (cap : Nat) (ht : Tabs w) (hcap : cap ≤ 9223372036854775807) (hlen : bs.length ≤ cap) (hbig : bs.length ≤ 4194304) (hB : Byts w A bs) :
    Calls Tryd.prog 6 #[.slice A bs.length cap] w fun e w' => e = .returned (.bool true) ∧ Below w.heap.size w w' := by
  have HT := Lib.hid ht
  have h1 := all_any w A bs cap ht hcap hlen hbig hB
  have hfacts := allM_facts bs hB.vals
  have hback := back_law bs hB.vals
  have hle := again_le bs hB.vals
  obtain ⟨n, hn⟩ : ∃ n, n = bs.length := ⟨_, rfl⟩
  obtain ⟨r, hr⟩ : ∃ r, r = allM bs := ⟨_, rfl⟩
  rw [← hr, ← hn] at h1
  simp only [← hr, ← hn] at hfacts hback hle
  rw [← hn] at hlen hbig ⊢
  have H1 := Lib.hid h1
  have HBK := Lib.hid hback
  have HLE := Lib.hid hle
  have HF := Lib.hid hfacts
  obtain ⟨l, err⟩ := r
  clear h1 hr hfacts hback hle hn ht hB
  go_enter Tryd.func6, Tryd.ntmps6
  go_wp2_with fail
  refine H1.out.mono ?_
  rintro e w2 ⟨v, rfl, hown, hb2, _⟩
  obtain ⟨A1, cap1, rfl, hlc, hc1, hops⟩ := hown.reads
  have HO := Lib.hid hops
  clear hown hops H1
  simp only at hlc ⊢
  by_cases h3 : 40 < n
  · have h3' : decide ((40 : Int) < n) = true := by simp; omega
    clear HO HBK HLE HF
    go_wp2_with (go_at_call 11; refine (known_any _ (HT.out.keep hb2)).mono ?_; rintro e w6 ⟨rfl, hb6⟩)
    go_ret
    exact ⟨rfl, hb2.trans (hb6.mono hb2.size)⟩
  by_cases he : err = 0
  case neg =>
    have he' : (err != 0) = true := by simpa using he
    clear HO HBK HLE HF
    go_wp2_with (go_at_call 11; refine (known_any _ (HT.out.keep hb2)).mono ?_; rintro e w6 ⟨rfl, hb6⟩)
    go_ret
    exact ⟨rfl, hb2.trans (hb6.mono hb2.size)⟩
  subst he
  obtain ⟨hf1, hf2⟩ := HF.out rfl
  have hkl := length_le_lens l hf1

  have hk40 : l.length ≤ 40 := by omega
  have h2 := bytes_any w2 A1 l cap1 (HT.out.keep hb2) (by omega) HO.out
  have hvl := bytesF_vals l
  have hbad := badN_some l
  obtain ⟨k, hk⟩ : ∃ k, k = l.length := ⟨_, rfl⟩
  obtain ⟨c, hc⟩ : ∃ c, c = bytesF l := ⟨_, rfl⟩
  rw [← hk, ← hc] at h2
  rw [← hk, ← hc] at hbad
  rw [← hc] at hvl
  rw [← hk] at hk40 hlc ⊢
  have H2 := Lib.hid h2
  have HK := Lib.hid hk
  have HC := Lib.hid hc
  have HVL := Lib.hid hvl
  have HBAD := Lib.hid hbad
  clear hf1 hf2 hkl h2 hk hc hvl hbad HF
  obtain ⟨cs, cerr⟩ := c
  go_wp2_with fail
  refine H2.out.mono ?_
  rintro e w3 ⟨v2, rfl, hown2, hb3, _⟩
  have HO3 := Lib.hid (HO.out.below hb3)
  have hb4 := hb2.trans (hb3.mono hb2.size)
  obtain ⟨A2, cap2, rfl, hlc2, hc2, hB2⟩ := hown2.reads HVL.out
  have HB2 := Lib.hid hB2
  clear hown2 hB2 hb2 hb3 HO H2
  go_wp2_with fail
  go_loopg [7, 8] k (fun g s7 s8 wr => ∃ i : Nat, i + g = k ∧ s8 = .int .i64 i ∧ s7 = .bool (badN l i) ∧ wr = w3)
  case atStart => exact ⟨0, by omega, rfl, rfl, rfl⟩
  case round =>
    obtain ⟨i, hi, rfl, rfl, hwr⟩ := hrel
    subst hwr
    obtain ⟨bd, hbd⟩ : ∃ bd, bd = badN l i := ⟨_, rfl⟩
    have HBD := Lib.hid hbd
    rw [← hbd]
    clear hbd
    cases gk with
    | succ g =>
      have hij : (i : Int) < k := by omega
      have hil : i < l.length := by have := HK.out; omega
      obtain ⟨o, ho⟩ : ∃ o, l[i]? = some o := ⟨_, List.getElem?_eq_getElem hil⟩
      have hnx := badN_next l i o ho
      rw [← HBD.out] at hnx
      have HNX := Lib.hid hnx
      obtain ⟨b, off, rfl, hbl, c0, c1, c2, c3⟩ := HO3.out i o ho
      clear ho hil hnx
      cases bd
      · by_cases h0 : o.k = 0
        · have h0' : (o.k == 0) = true := by simpa using h0
          have HN2 : Aside (badN l (i + 1) = true) := by show _ = _; rw [HNX.out, h0']; rfl
          clear h0 HNX
          go_wp2
          go_roundg g
          case measure => omega
          case rel => exact ⟨i + 1, by omega, by go_num, by rw [HN2.out], rfl⟩
        · have h0' : (o.k == 0) = false := by simpa using h0
          have HN2 : Aside (badN l (i + 1) = false) := by show _ = _; rw [HNX.out, h0']; rfl
          clear h0 HNX
          go_wp2
          go_roundg g
          case measure => omega
          case rel => exact ⟨i + 1, by omega, by go_num, by rw [HN2.out], rfl⟩
      · have HN2 : Aside (badN l (i + 1) = true) := by show _ = _; rw [HNX.out]; rfl
        clear HNX
        go_wp2
        go_roundg g
        case measure => omega
        case rel => exact ⟨i + 1, by omega, by go_num, by rw [HN2.out], rfl⟩
    | zero =>
      obtain rfl : k = i := by omega
      have hin : ¬ ((k : Int) < k) := by omega
      cases bd
      case true =>
        have hb2' := HBAD.out HBD.out.symm
        simp only [Prod.mk.injEq] at hb2'
        obtain ⟨hcs, hce⟩ := hb2'
        subst hcs hce
        clear HBAD HVL HB2 HO3 HC HBK HLE
        go_wp2_with (go_at_call 11; refine (known_any _ (HT.out.keep hb4)).mono ?_; rintro e w6 ⟨rfl, hb6⟩)
        go_ret
        exact ⟨rfl, hb4.trans (hb6.mono hb4.size)⟩
      case false =>
        have hall := badN_all l (by rw [← HK.out]; exact HBD.out.symm)
        obtain ⟨g1, g2, g3, g4⟩ := HBK.out (by trivial) hall
        rw [← HC.out] at g1 g2 g3 g4
        simp only at g1 g2 g3 g4
        subst g1
        have h5 := all_any wr A2 cs cap2 (HT.out.keep hb4) hc2 hlc2 (by omega) HB2.out
        rw [g2] at h5
        have hcl : cs.length ≤ 40 := by omega
        obtain ⟨cn, hcn⟩ : ∃ cn, cn = cs.length := ⟨_, rfl⟩
        rw [← hcn] at h5 hcl hlc2 g4 ⊢
        have H5 := Lib.hid h5
        have HCN := Lib.hid hcn
        have HVL2 := Lib.hid g3
        clear g2 g3 h5 hall hcn HBAD HBK HVL
        go_wp2_with fail
        refine H5.out.mono ?_
        rintro e w4 ⟨v4, rfl, hown4, hb5, _⟩
        obtain ⟨A4, cap4, rfl, hlc4, hc4, hops4⟩ := hown4.reads
        have HO4 := Lib.hid (HO3.out.below hb5)
        have HB4 := Lib.hid (HB2.out.below hb5)
        have HOK := Lib.hid hops4
        have hb6 := hb4.trans (hb5.mono hb4.size)
        simp only at hlc4 ⊢
        rw [List.length_map, ← HK.out] at hlc4 ⊢
        clear hown4 hops4 hb5 hb4 HB2 HO3
        have hmap := bytesF_again l
        rw [← HC.out] at hmap
        have h6 := fun W (hW1 : Below w.heap.size w W) (hW : Below w4.heap.size w4 W) => bytes_any W A4 (l.map again) cap4 (HT.out.keep hW1) (by rw [List.length_map, ← HK.out]; omega) (HOK.out.below hW)
        simp only [hmap, List.length_map, ← HK.out] at h6
        have H6 := Lib.hid h6
        clear hmap h6 HC
        go_wp2_with fail
        go_loopg [11] k (fun g s11 wq => ∃ i : Nat, i + g = k ∧ s11 = .int .i64 i ∧ Below w.heap.size w wq ∧ Below w4.heap.size w4 wq)
        case atStart => exact ⟨0, by omega, rfl, hb6, Below.refl _ _⟩
        case round =>
          clear hb6
          obtain ⟨i, hi2, rfl, hb6, hb62⟩ := hrel
          cases gk with
          | succ g =>
            have hij : (i : Int) < k := by omega
            have hil : i < l.length := by have := HK.out; omega
            obtain ⟨o, ho⟩ : ∃ o, l[i]? = some o := ⟨_, List.getElem?_eq_getElem hil⟩
            have hq := HLE.out (by trivial) o (List.mem_of_getElem? ho)
            have hom : (l.map again)[i]? = some (again o) := by rw [List.getElem?_map, ho]; rfl
            obtain ⟨b, off, rfl, _, c0, c1, c2, c3⟩ := (HO4.out.below hb62) i o ho
            obtain ⟨b', off', rfl, _, z0, z1, z2, d3⟩ := (HOK.out.below hb62) i _ hom
            obtain ⟨q, hqq⟩ : ∃ q, q = (again o).l := ⟨_, rfl⟩
            rw [← hqq] at hq d3
            have d0 : World.cell? _ ⟨b', off' + i * 4, none⟩ = some (.int .i64 o.k) := z0
            have d1 : World.cell? _ ⟨b', off' + i * 4 + 1, none⟩ = some (.int .i64 o.n) := z1
            have d2 : World.cell? _ ⟨b', off' + i * 4 + 2, none⟩ = some (.int .i64 o.m) := z2
            have hnl : ¬ (o.l < q) := by omega
            clear hq hqq hom ho hil z0 z1 z2
            go_wp2_with fail
            go_quiet (fail)
            go_wp2
            go_roundg g
            case measure => omega
            case rel => exact ⟨i + 1, by omega, by go_num, ⟨hb6.os, hb6.tape, hb6.output, hb6.size, hb6.block⟩, ⟨hb62.os, hb62.tape, hb62.output, hb62.size, hb62.block⟩⟩
          | zero =>
            have hin : ¬ ((i : Int) < k) := by omega
            clear HO4 HOK HLE
            go_wp2_with fail
            refine (H6.out _ hb6 hb62).mono ?_
            rintro e w5 ⟨v5, rfl, hown5, hb7, _⟩
            obtain ⟨A5, cap5, rfl, hlc5, hc5, hB5⟩ := hown5.reads (HVL2.out)
            have hb8 := hb6.trans (hb7.mono hb6.size)
            have HS := Lib.hid (same_bytes w5 A2 A5 cs cap2 cap5 ((HB4.out.below hb62).below hb7) hB5)
            rw [← HCN.out] at HS hlc5 ⊢
            clear hown5 hB5 hb7 hb6 H6
            go_wp2_with fail
            refine HS.out.mono ?_
            rintro e w' ⟨rfl, rfl⟩
            go_wp2_with (go_at_call 11; refine (known_any _ (HT.out.keep hb8)).mono ?_; rintro e w9 ⟨rfl, hb9⟩)
            go_ret
            exact ⟨rfl, hb8.trans (hb9.mono hb8.size)⟩
end Go.Proofs.YtdbignfpmpohiaaDoor
