/-
  The contract of the document's Jumps: it tells 'jumpsM', too.
-/
import Derived.Test.YtdbignfpmpohiaaDoorJmp
namespace Go.Proofs.YtdbignfpmpohiaaDoor
open Go.RowKit

/-- does one of the first j begin there? -/
def begI (l : List O4) (j : Nat) (T : Int) : Bool := (List.range j).any fun i => (posN l i : Int) == T
theorem begI_next (l : List O4) (j : Nat) (T : Int) : begI l (j + 1) T = (begI l j T || (posN l j : Int) == T) := by simp [begI, List.range_succ]
theorem begI_neg (l : List O4) (j : Nat) (T : Int) (h : T < 0) : begI l j T = false := by
  rw [begI, List.any_eq_false]
  intro i _
  simp; omega
theorem begI_great (l : List O4) (j : Nat) (T : Int) (h : (lens l : Int) < T) : begI l j T = false := by
  rw [begI, List.any_eq_false]
  intro i _
  have := posN_le l i
  simp; omega
theorem begI_nat (l : List O4) (j : Nat) (T : Nat) : begI l j T = begN l j T := by
  rw [begI, begN, Bool.eq_iff_iff]
  simp only [List.any_eq_true, List.mem_range, beq_iff_eq]
  constructor
  · rintro ⟨i, h, e⟩; exact ⟨i, h, by omega⟩
  · rintro ⟨i, h, e⟩; exact ⟨i, h, by omega⟩
theorem okAt_eq (l : List O4) (i : Nat) (o : O4) : okAt l (lens l) i o = (!(o.k == 0) && (decide (o.k < 22) || decide (24 < o.k) ||
    (decide ((posN l (i + 1) : Int) + o.n = (lens l : Int)) || begI l l.length ((posN l (i + 1) : Int) + o.n)))) := by
  have hk : (!(o.k == 22 || (o.k == 23 || o.k == 24))) = (decide (o.k < 22) || decide (24 < o.k)) := by
    rw [Bool.eq_iff_iff]; simp; omega
  rw [okAt, hk]
  congr 2
  obtain ⟨T, hT⟩ : ∃ T : Int, T = (posN l (i + 1) : Int) + o.n := ⟨_, rfl⟩
  rw [← hT]
  by_cases h0 : T < 0
  · rw [begI_neg _ _ _ h0, decide_eq_false (p := 0 ≤ T) (by omega), decide_eq_false (p := T = (lens l : Int)) (by omega)]; rfl
  by_cases h1 : (lens l : Int) < T
  · rw [begI_great _ _ _ h1, decide_eq_false (p := T ≤ (lens l : Int)) (by omega), decide_eq_false (p := T = (lens l : Int)) (by omega)]; simp
  obtain ⟨t, rfl⟩ : ∃ t : Nat, T = t := ⟨T.toNat, by omega⟩
  rw [begI_nat, decide_eq_true (p := 0 ≤ (t : Int)) (by omega), decide_eq_true (p := (t : Int) ≤ (lens l : Int)) (by omega), Bool.true_and, Bool.true_and, Int.toNat_natCast, Bool.or_comm]
  congr 1
  rw [Bool.eq_iff_iff]; simp; omega

set_option maxRecDepth 100000 in
set_option maxHeartbeats 4000000 in
theorem rjumps_any (w : World) (A : Option Addr) (bs : List Int) (cap : Nat) (hcap : cap ≤ 9223372036854775807) (hlen : bs.length ≤ cap) (hbig : bs.length ≤ 4194304) (hB : Byts w A bs) :
    Calls Tryd.prog 18 #[.slice A bs.length cap] w fun e w' => e = .returned (.bool (jumpsM bs)) ∧ Below w.heap.size w w' := by
  have hv : ∀ v ∈ bs, 0 ≤ v ∧ v ≤ 255 := by
    intro v hv
    obtain ⟨j, hj⟩ := List.getElem?_of_mem hv
    obtain ⟨h1, h2, _⟩ := hB j v hj
    exact ⟨h1, h2⟩
  have hall := rall_any w A bs cap hcap hlen hbig hB
  obtain ⟨n, hn⟩ : ∃ n, n = bs.length := ⟨_, rfl⟩
  have hfacts := allM_facts bs hv
  obtain ⟨r, hr⟩ : ∃ r, r = allM bs := ⟨_, rfl⟩
  have hJ : jumpsM bs = (r.2 == 0 && okFrom r.1 n r.1.length) := by rw [hr, hn]; rfl
  rw [← hr] at hall hfacts
  rw [← hn] at hall hfacts hbig hlen
  rw [hJ, ← hn]
  obtain ⟨J, hJJ⟩ : ∃ J, J = (r.2 == 0 && okFrom r.1 n r.1.length) := ⟨_, rfl⟩
  rw [← hJJ]
  obtain ⟨l, err⟩ := r
  simp only at hfacts hJJ
  have HALL := Lib.hid hall
  have HF := Lib.hid hfacts
  have HJ := Lib.hid hJJ
  clear hall hfacts hJJ hJ hr hn hv hB
  go_enter Tryd.func18, Tryd.ntmps18
  go_wp2_with fail
  refine HALL.out.mono ?_
  rintro e w1 ⟨v, rfl, hown, hb1, _⟩
  obtain ⟨A1, cap1, rfl, hlc, hc1, hops⟩ := hown.reads
  clear hown HALL
  have hsz1 := hb1.size
  simp only at hops hlc ⊢
  by_cases he : err = 0
  · subst he
    obtain ⟨hf1, hf2⟩ := HF.out rfl
    have hkl := length_le_lens l hf1
    obtain ⟨k, hk⟩ : ∃ k, k = l.length := ⟨_, rfl⟩
    have hJ0 : J = okFrom l n k := by rw [HJ.out, hk]; rfl
    have HJ1 := Lib.hid hJ0
    rw [← hk] at hkl hlc ⊢
    have HF1 := Lib.hid hf1
    have HF2 := Lib.hid hf2
    have HO := Lib.hid hops
    have HK := Lib.hid hk
    have HB1 := Lib.hid hb1
    clear hJ0 hf1 HJ HF hops hk hb1
    rw [hf2] at hkl
    clear hf2
    go_wp2_with fail
    go_loopg [5, 6] k (fun g s5 s6 wr => ∃ i : Nat, i + g = k ∧ s6 = .int .i64 i ∧ s5 = .int .i64 (posN l i) ∧ wr = w1 ∧ Aside (J = okFrom l n g))
    case atStart => exact ⟨0, by omega, rfl, rfl, rfl, HJ1.out⟩
    case round =>
      obtain ⟨i, hi, rfl, rfl, hwr, hJ⟩ := hrel
      subst hwr
      clear HJ1
      cases gk with
      | zero =>
        have hin : ¬ ((i : Int) < k) := by omega
        have hJ1 : Aside (J = true) := by show _ = _; rw [hJ.out, okFrom]
        clear hJ
        go_wp2
        go_ret
        rw [hJ1.out]
        exact ⟨rfl, HB1.out⟩
      | succ g =>
        have hij : (i : Int) < k := by omega
        have hil : i < l.length := by have := HK.out; omega
        obtain ⟨o, ho⟩ : ∃ o, l[i]? = some o := ⟨_, List.getElem?_eq_getElem hil⟩
        obtain ⟨hl1, hl2, hn1, hn2⟩ := HF1.out o (List.mem_of_getElem? ho)
        have hp := posN_next l i o ho
        have hple2 := posN_le l (i + 1)
        rw [HF2.out] at hple2
        obtain ⟨q, hq⟩ : ∃ q : Nat, o.l = q := ⟨o.l.toNat, by omega⟩
        have hp' : posN l (i + 1) = posN l i + q := by rw [hp, hq]; rfl
        have hpn2 : posN l i + q ≤ n := by omega
        have HP := Lib.hid hp'
        have hJ1 := hJ.out
        have hidx : l.length - (g + 1) = i := by have := HK.out; omega
        rw [okFrom, hidx, ho] at hJ1
        have hok := okAt_eq l i o
        rw [HF2.out] at hok
        have hJ2 : J = (okAt l n i o && okFrom l n g) := hJ1
        rw [hok] at hJ2
        obtain ⟨b, off, rfl, hbl, c0, c1, c2, c3⟩ := HO.out i o ho
        rw [hq] at c3
        clear hJ hJ1 hidx hp hp' hq ho hil hple2 hl1 hl2 hok
        by_cases h0 : o.k = 0
        · have HOK : Aside (J = false) := by show _ = _; rw [hJ2, h0]; rfl
          rw [h0] at c0
          clear hJ2
          go_wp2
          try rw [Exit.noGoto_ret]
          go_ret
          rw [HOK.out]
          exact ⟨rfl, HB1.out⟩
        have hk0 : (o.k == 0) = false := by simpa using h0
        by_cases h2 : o.k < 22
        · have HOK : Aside (J = okFrom l n g) := by show _ = _; rw [hJ2, hk0, decide_eq_true h2]; rfl
          have h3 : ¬ (24 < o.k) := by omega
          clear hJ2
          go_wp2
          go_roundg g
          case measure => omega
          case rel => exact ⟨i + 1, by omega, by go_num, by rw [HP.out]; go_num, rfl, HOK⟩
        by_cases h3 : 24 < o.k
        · have HOK : Aside (J = okFrom l n g) := by show _ = _; rw [hJ2, hk0, decide_eq_true h3]; simp
          clear hJ2
          go_wp2
          go_roundg g
          case measure => omega
          case rel => exact ⟨i + 1, by omega, by go_num, by rw [HP.out]; go_num, rfl, HOK⟩
        obtain ⟨T, hT⟩ : ∃ T : Int, T = (posN l i : Int) + (q : Int) + o.n := ⟨_, rfl⟩
        have hpI : ((posN l (i + 1) : Nat) : Int) + o.n = T := by rw [HP.out, hT]; omega
        rw [hpI, hk0, decide_eq_false h2, decide_eq_false h3, ← HK.out] at hJ2
        have hJ3 : J = ((decide (T = (n : Int)) || begI l k T) && okFrom l n g) := by rw [hJ2]; simp
        have HJ3 := Lib.hid hJ3
        have HT := Lib.hid hT
        clear hJ2 hJ3 hpI hk0
        have hTb : -9223372036854775808 ≤ (posN l i : Int) + (q : Int) + o.n ∧ (posN l i : Int) + (q : Int) + o.n ≤ 9223372036854775807 := by omega
        obtain ⟨bb, hbb⟩ : ∃ bb, bb = ((posN l i : Int) + (q : Int) + o.n == (n : Int)) := ⟨_, rfl⟩
        have hbb' := hbb.symm
        have HBB := Lib.hid hbb
        clear hbb hT
        go_wp2_with fail
        go_loopg [7, 8, 9] k (fun g s7 s8 s9 wz => ∃ j : Nat, j + g = k ∧ s9 = .int .i64 j ∧ s7 = .int .i64 (posN l j) ∧ s8 = .bool (bb || begI l j T) ∧ wz = wr)
        case atStart => exact ⟨0, by omega, rfl, rfl, by simp [begI], rfl⟩
        case round =>
          obtain ⟨j, hj, rfl, rfl, rfl, hwr⟩ := hrel
          subst hwr
          cases gk with
          | zero =>
            have hin : ¬ ((j : Int) < k) := by omega
            have hjk : j = k := by omega
            subst hjk
            obtain ⟨z, hz⟩ : ∃ z, z = (bb || begI l j T) := ⟨_, rfl⟩
            have hJ4 : Aside (J = (z && okFrom l n g)) := by show _ = _; rw [HJ3.out, hz, HBB.out, HT.out]; rfl
            rw [← hz]
            clear hz HJ3 HBB
            cases z
            · go_wp2
              try rw [Exit.noGoto_ret]
              go_ret
              rw [hJ4.out]
              exact ⟨rfl, HB1.out⟩
            · go_wp2
              go_roundg g
              case measure => omega
              case rel => exact ⟨i + 1, by omega, by go_num, by rw [HP.out]; go_num, rfl, by show _ = _; rw [hJ4.out, Bool.true_and]⟩
          | succ g2 =>
            have hjk : (j : Int) < k := by omega
            have hjl : j < l.length := by have := HK.out; omega
            obtain ⟨o2, ho2⟩ : ∃ o, l[j]? = some o := ⟨_, List.getElem?_eq_getElem hjl⟩
            obtain ⟨hm1, hm2, _, _⟩ := HF1.out o2 (List.mem_of_getElem? ho2)
            have hp := posN_next l j o2 ho2
            have hple2 := posN_le l (j + 1)
            rw [HF2.out] at hple2
            obtain ⟨q2, hq2⟩ : ∃ q : Nat, o2.l = q := ⟨o2.l.toNat, by omega⟩
            have hp' : posN l (j + 1) = posN l j + q2 := by rw [hp, hq2]; rfl
            have hpn3 : posN l j + q2 ≤ n := by omega
            have HP2 := Lib.hid hp'
            have hnext := begI_next l j T
            have HN := Lib.hid hnext
            obtain ⟨b2, off2, hA2, hbl2, d0, d1, d2, d3⟩ := HO.out j o2 ho2
            injection hA2 with hA2
            injection hA2 with e1 e2 e3
            subst e1
            subst e2
            rw [hq2] at d3
            clear hp hp' hq2 ho2 hjl hple2 hm1 hm2 hnext HBB HJ3
            by_cases hbt : (posN l j : Int) = T
            · have hbt2 : (posN l j : Int) = (posN l i : Int) + (q : Int) + o.n := by rw [hbt, HT.out]
              have HBT := Lib.hid hbt
              clear hbt
              go_wp2
              go_roundg g2
              case measure => omega
              case rel => exact ⟨j + 1, by omega, by go_num, by rw [HP2.out]; go_num, by rw [HN.out, HBT.out]; simp, rfl⟩
            · have hbt2 : ¬ ((posN l j : Int) = (posN l i : Int) + (q : Int) + o.n) := by rw [← HT.out]; exact hbt
              have hbt3 : ((posN l j : Int) == T) = false := by simpa using hbt
              have HBT := Lib.hid hbt3
              clear hbt hbt3
              go_wp2
              go_roundg g2
              case measure => omega
              case rel => exact ⟨j + 1, by omega, by go_num, by rw [HP2.out]; go_num, by rw [HN.out, HBT.out]; simp, rfl⟩
  · have hJ0 : Aside (J = false) := by show _ = _; rw [HJ.out]; simp [he]
    clear HJ HF
    go_wp2
    try rw [Exit.noGoto_ret]
    go_ret
    rw [hJ0.out]
    exact ⟨rfl, hb1⟩
end Go.Proofs.YtdbignfpmpohiaaDoor
