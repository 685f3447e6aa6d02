/-
  The walk of CodeCut: bytes that are cut short tell the same up to there, or lack something; behind others they tell the same. Condition: at most 4194304 bytes each.
-/
import Derived.Test.YtdbignfpmpohiaaDoorApb
namespace Go.Proofs.YtdbignfpmpohiaaDoor
open Go.RowKit

set_option maxRecDepth 100000 in
set_option maxHeartbeats 1000000 in
theorem codecut_walk (w : World) (A B : Option Addr) (xs ys : List Int) (ca cb : Nat) (ht : Tabs w) (hca : ca ≤ 9223372036854775807) (hcb : cb ≤ 9223372036854775807) (hla : xs.length ≤ ca) (hlb : ys.length ≤ cb)
    (hga : xs.length ≤ 4194304) (hgb : ys.length ≤ 4194304) (hA : Byts w A xs) (hB : Byts w B ys) (hna : A = none → ca = 0) (hnb : B = none → cb = 0) :
    Calls Tryd.prog 9 #[.slice A xs.length ca, .slice B ys.length cb] w fun e w' => e = .returned (.bool true) ∧ Below w.heap.size w w' := by
  have HT := Lib.hid ht
  have h1 := all_any w A xs ca ht hca hla hga hA
  have h2 := fun W (hW : Below w.heap.size w W) => all_any W B ys cb (HT.out.keep hW) hcb hlb hgb (hB.below hW)
  have happ := allM_app xs ys hA.vals hB.vals
  have hval : ∀ v ∈ xs ++ ys, 0 ≤ v ∧ v ≤ 255 := by
    intro v hv
    rcases List.mem_append.1 hv with h | h
    · exact hA.vals v h
    · exact hB.vals v h
  obtain ⟨p, hp⟩ : ∃ p, p = xs.length := ⟨_, rfl⟩
  obtain ⟨q, hq⟩ : ∃ q, q = ys.length := ⟨_, rfl⟩
  obtain ⟨ra, hra⟩ : ∃ r, r = allM xs := ⟨_, rfl⟩
  obtain ⟨rb, hrb⟩ : ∃ r, r = allM ys := ⟨_, rfl⟩
  have hlen : (xs ++ ys).length = p + q := by rw [List.length_append, hp, hq]
  have hll : ra.1.length ≤ 4194304 := by
    by_cases he : (allM xs).2 = 0
    · obtain ⟨f1, f2⟩ := allM_facts xs hA.vals he
      have := length_le_lens _ f1
      rw [hra]; omega
    · have : (allM xs).1 = [] := allF_err xs _ _ he
      rw [hra, this]; simp
  have hlm : rb.1.length ≤ 4194304 := by
    by_cases he : (allM ys).2 = 0
    · obtain ⟨f1, f2⟩ := allM_facts ys hB.vals he
      have := length_le_lens _ f1
      rw [hrb]; omega
    · have : (allM ys).1 = [] := allF_err ys _ _ he
      rw [hrb, this]; simp
  rw [← hra, ← hp] at h1
  simp only [← hrb, ← hq] at h2
  rw [← hra, ← hrb] at happ
  rw [← hp] at hla hga ⊢
  rw [← hq] at hlb hgb ⊢
  have HP := Lib.hid hp
  have HQ := Lib.hid hq
  have H1 := Lib.hid h1
  have H2 := Lib.hid h2
  have HAPP := Lib.hid happ
  have HV := Lib.hid hval
  have HLEN := Lib.hid hlen
  have HA := Lib.hid hA
  have HB := Lib.hid hB
  have HNA := Lib.hid hna
  have HNB := Lib.hid hnb
  obtain ⟨l, ea⟩ := ra
  obtain ⟨m, eb⟩ := rb
  simp only at hll hlm
  clear hp hq hra hrb h1 h2 happ hval hlen hA hB hna hnb ht
  go_enter Tryd.func9, Tryd.ntmps9
  go_wp2_with fail
  refine H1.out.mono ?_
  rintro e w1 ⟨v, rfl, hown, hb1, _⟩
  have HO1 := Lib.hid hown
  obtain ⟨A1, cap1, rfl, hlc, hc1, hops⟩ := hown.reads
  have HR1 := Lib.hid hops
  clear hown hops H1
  go_wp2_with fail
  refine (H2.out _ hb1).mono ?_
  rintro e w2 ⟨v2, rfl, hown2, hb2, _⟩
  obtain ⟨A2, cap2, rfl, hlc2, hc2, hops2⟩ := hown2.reads
  have HR2 := Lib.hid hops2
  have hb2' := hb1.trans (hb2.mono hb1.size)
  have HR12 := Lib.hid (HR1.out.below hb2)
  have hsz2 := hb2'.size
  clear hown2 hops2 H2 HO1 HR1 hb1 hb2
  simp only at hlc hlc2 ⊢
  by_cases h3 : 2000 < p + q
  · have h3' : decide ((2000 : Int) < (p : Int) + (q : Int)) = true := by simp; omega
    clear HR12 HR2 HAPP HV HA HB HNA HNB
    go_wp2_with (go_at_call 11; refine (known_any _ (HT.out.keep hb2')).mono ?_; rintro e w6 ⟨rfl, hb6⟩)
    go_ret
    exact ⟨rfl, hb2'.trans (hb6.mono hb2'.size)⟩
  have h3' : decide ((2000 : Int) < (p : Int) + (q : Int)) = false := by simp; omega
  by_cases he : ea = 0
  case neg =>
    have he' : (ea != 0) = true := by simpa using he
    clear HR12 HR2 HAPP HV HA HB HNA HNB
    go_wp2_with (go_at_call 11; refine (known_any _ (HT.out.keep hb2')).mono ?_; rintro e w6 ⟨rfl, hb6⟩)
    go_ret
    exact ⟨rfl, hb2'.trans (hb6.mono hb2'.size)⟩
  subst he
  have HA2 := Lib.hid (HA.out.below hb2')
  have HB2 := Lib.hid (HB.out.below hb2')
  clear HA HB
  go_wp2_with (at_builtin; refine append_bytes rfl _ _ rfl w2.heap.size _ [] rfl (World.ownsRow_nil _ _ _ _) A xs p ca HP.out rfl HA2.out HNA.out ?c1 (Nat.le_refl _) ?_)
  case c1 => have e0 : ([] : List Int).length = 0 := rfl
             omega
  intro v3 w3 hown3 hg3
  have hb23 : Below w2.heap.size w2 w3 := (Below.refl _ w2).grown hg3 (Nat.le_refl _) (fun k hk => ((World.ownsRow_nil w2 w2.heap.size 5 1).lt k hk).1)
  have HB3 := Lib.hid (HB2.out.below hb23)
  have hsz3 := hb23.size
  have hown3 : OwnsB w3 w2.heap.size v3 xs := hown3
  clear hg3 HB2 HA2
  go_wp2_with (at_builtin; refine append_bytes rfl _ _ rfl w2.heap.size _ xs rfl hown3 B ys q cb HQ.out rfl HB3.out HNB.out ?c1 hsz3 ?_)
  case c1 => have := HP.out; omega
  intro v4 w4 hown4 hg4
  have hb24 : Below w2.heap.size w2 w4 := hb23.grown hg4 hsz3 (fun k hk => (hown3.lt k hk).1)
  have hsz4 := hb24.size
  obtain ⟨A3, cap3, rfl, hlc3, hc3, hB3⟩ := hown4.reads HV.out
  have hb4 := hb2'.trans (hb24.mono hsz2)
  have h5 := all_any w4 A3 (xs ++ ys) cap3 (HT.out.keep hb4) hc3 hlc3 (by have := HLEN.out; omega) hB3
  have happ := HAPP.out (by trivial)
  rw [happ, HLEN.out] at h5
  rw [HLEN.out] at hlc3 ⊢
  have HR14 := Lib.hid (HR12.out.below hb24)
  have HR24 := Lib.hid (HR2.out.below hb24)
  clear hg4 hown4 hown3 hb23 HB3 hB3 happ HAPP HR12 HR2 HV hb24 hb2'
  by_cases hf : eb = 0
  case neg =>
    have hj : joinA l (m, eb) = ([], eb) := by rw [joinA, if_pos hf]
    rw [hj] at h5
    have H5 := Lib.hid h5
    have hf' : (eb != 0) = true := by simpa using hf
    clear h5 hj HR14 HR24 HP HQ HNA HNB
    go_wp2_with fail
    refine H5.out.mono ?_
    rintro e w5 ⟨v5, rfl, hown5, hb5, hnil⟩
    obtain rfl := hnil hf
    have hb6 := hb4.trans (hb5.mono hb4.size)
    clear hown5 hnil hb5 hb4
    go_wp2_with (go_at_call 11; refine (known_any _ (HT.out.keep hb6)).mono ?_; rintro e w6 ⟨rfl, hb7⟩)
    go_ret
    exact ⟨rfl, hb6.trans (hb7.mono hb6.size)⟩
  subst hf
  have hj : joinA l (m, 0) = (l ++ m, 0) := by rw [joinA, if_neg (by simp)]
  rw [hj] at h5
  have H5 := Lib.hid h5
  clear h5 hj HP HQ HNA HNB
  go_wp2_with fail
  refine H5.out.mono ?_
  rintro e w5 ⟨v5, rfl, hown5, hb5, _⟩
  have HR15 := Lib.hid (HR14.out.below hb5)
  have HR25 := Lib.hid (HR24.out.below hb5)
  have hb6 := hb4.trans (hb5.mono hb4.size)
  clear H5 HR14 HR24 hb5 hb4
  simp only at hown5
  rcases hown5.cases with ⟨rfl, hnil⟩ | ⟨g, cap5, rfl, hl5, hc5, hops5⟩
  · obtain ⟨rfl, rfl⟩ : l = [] ∧ m = [] := by simpa using hnil
    clear hown5 hnil
    go_wp2_with fail
    refine (same_ops w5 none A1 [] 0 cap1 (by simp) (opsR_nil _ _) (opsR_nil _ _)).mono ?_
    rintro e w6 ⟨rfl, hb7⟩
    have hb8 := hb6.trans (hb7.mono hb6.size)
    clear hb6 hb7
    go_wp2_with fail
    refine (same_ops w6 none A2 [] 0 cap2 (by simp) (opsR_nil _ _) (opsR_nil _ _)).mono ?_
    rintro e w7 ⟨rfl, hb9⟩
    have hb10 := hb8.trans (hb9.mono hb8.size)
    clear hb8 hb9
    go_wp2_with (go_at_call 11; refine (known_any _ (HT.out.keep hb10)).mono ?_; rintro e w9 ⟨rfl, hb11⟩)
    go_ret
    exact ⟨rfl, hb10.trans (hb11.mono hb10.size)⟩
  · rw [List.length_append] at hl5 ⊢
    have HL5 := Lib.hid hops5.left
    have hr6 := hops5.right
    rw [Nat.zero_add] at hr6
    have HL6 := Lib.hid hr6
    clear hown5 hops5 hr6
    go_wp2_with fail
    refine (same_ops w5 _ A1 l cap5 cap1 (by omega) HL5.out HR15.out).mono ?_
    rintro e w6 ⟨rfl, hb7⟩
    have HL7 := Lib.hid (HL6.out.below hb7)
    have HR7 := Lib.hid (HR25.out.below hb7)
    have hb8 := hb6.trans (hb7.mono hb6.size)
    clear hb6 hb7 HL5 HR15 HL6 HR25
    by_cases hcap : cap5 = l.length
    · subst hcap
      obtain rfl : m = [] := List.eq_nil_of_length_eq_zero (by omega)
      go_wp2_with fail
      refine (same_ops w6 _ A2 [] _ cap2 (by simp) (opsR_nil _ _) (opsR_nil _ _)).mono ?_
      rintro e w7 ⟨rfl, hb9⟩
      have hb10 := hb8.trans (hb9.mono hb8.size)
      clear hb8 hb9
      go_wp2_with (go_at_call 11; refine (known_any _ (HT.out.keep hb10)).mono ?_; rintro e w9 ⟨rfl, hb11⟩)
      go_ret
      exact ⟨rfl, hb10.trans (hb11.mono hb10.size)⟩
    · have hcap' : l.length < cap5 := by omega
      clear hcap
      go_wp2_with fail
      refine (same_ops w6 _ A2 m _ cap2 (by omega) HL7.out HR7.out).mono ?_
      rintro e w7 ⟨rfl, hb9⟩
      have hb10 := hb8.trans (hb9.mono hb8.size)
      clear hb8 hb9
      go_wp2_with (go_at_call 11; refine (known_any _ (HT.out.keep hb10)).mono ?_; rintro e w9 ⟨rfl, hb11⟩)
      go_ret
      exact ⟨rfl, hb10.trans (hb11.mono hb10.size)⟩
end Go.Proofs.YtdbignfpmpohiaaDoor
