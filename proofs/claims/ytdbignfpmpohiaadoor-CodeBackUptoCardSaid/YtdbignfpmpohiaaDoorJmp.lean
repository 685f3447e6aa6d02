/-
  The contract of code.Jumps: it tells 'jumpsM'.
-/
import Derived.Test.YtdbignfpmpohiaaDoorJmf
import Derived.Laws.MakeOwn
namespace Go.Proofs.YtdbignfpmpohiaaDoor
open Go.RowKit

theorem run_make_rowN {P : Program} (t e : TypeId) (i : TypeInfo) (z : Value) (ht : P.underlying t = some (.slice e)) (hi : P.info? e = some i) (hz : i.zero = some z)
    (kl kc : IntKind) (n c : Nat) (hnc : n ≤ c) (hbytes : i.bytes * c ≤ 281474976710656) (h63 : c ≤ 9223372036854775807) (w : World) :
    (Instr.makeSlice t (.int kl (n : Int)) (.int kc (c : Int))).run P w = .ok (.slice (some ⟨w.heap.size, 0, none⟩) n c) (w.alloc (.cells (madeCells z.cells (c * i.size)) e)) := by
  have hb : (i.bytes : Int) * (c : Int) ≤ 281474976710656 := by
    have h : ((i.bytes * c : Nat) : Int) ≤ 281474976710656 := by omega
    rwa [Int.natCast_mul] at h
  have hr := run_make (P := P) w t e i z ht hi hz kl kc n c (by omega) (by omega) hb (by omega)
  simp only [Int.toNat_natCast] at hr
  exact hr

theorem Tryd.info4 : (Tryd.prog.info? 4).map (fun i => (i.zero, i.size, i.bytes)) = some (some (.bool false), 1, 1) := by kernel_rfl

/-- n bools, by a function -/
def boolsF (n : Nat) (f : Nat → Bool) : Array Value := ((List.range n).map fun x => Value.bool (f x)).toArray
theorem boolsF_get (n : Nat) (f : Nat → Bool) (j : Nat) (h : j < n) : (boolsF n f)[j]? = some (.bool (f j)) := by simp [boolsF, h]
theorem boolsF_set (n : Nat) (f : Nat → Bool) (j : Nat) : (boolsF n f).setIfInBounds j (.bool true) = boolsF n fun x => f x || j == x := by
  apply Array.ext
  · simp [boolsF]
  · intro i h1 h2
    rw [Array.getElem_setIfInBounds]
    · by_cases e : j = i
      · subst e; simp [boolsF]
      · rw [if_neg e]
        have : (j == i) = false := by simpa using e
        simp [boolsF, this]
    · simpa [boolsF] using h2
theorem made_boolsF (n : Nat) : madeCells (Value.cells (.bool false)) (n * 1) = boolsF n fun _ => false := by
  apply Array.ext
  · simp [madeCells, boolsF]
  · intro i h1 h2
    have : i % 1 = 0 := by omega
    simp [madeCells, boolsF, Value.cells, this]
theorem boolsF_congr (n : Nat) (f f' : Nat → Bool) (h : ∀ x, f x = f' x) : boolsF n f = boolsF n f' := by rw [show f = f' from funext h]

theorem length_le_lens (l : List O4) (h : ∀ o ∈ l, fine o) : l.length ≤ lens l := by
  induction l with
  | nil => simp
  | cons o l ih =>
    have h1 := h o (by simp)
    have h2 := ih (fun x hx => h x (by simp [hx]))
    have h3 : 1 ≤ o.l.toNat := by have := h1.1; omega
    simp only [lens, List.map_cons, List.sum_cons, List.length_cons] at *
    omega

set_option maxRecDepth 100000 in
set_option maxHeartbeats 4000000 in
theorem jumps_any (w : World) (A : Option Addr) (bs : List Int) (cap : Nat) (ht : Tabs w) (hcap : cap ≤ 9223372036854775807) (hlen : bs.length ≤ cap) (hbig : bs.length ≤ 4194304) (hB : Byts w A bs) :
    Calls Tryd.prog 17 #[.slice A bs.length cap] w fun e w' => e = .returned (.bool (jumpsM bs)) ∧ Below w.heap.size w w' := by
  obtain ⟨i0, hi, hz0, hz1, hz2⟩ := info_parts Tryd.info4
  have hv : ∀ v ∈ bs, 0 ≤ v ∧ v ≤ 255 := by
    intro v hv
    obtain ⟨j, hj⟩ := List.getElem?_of_mem hv
    obtain ⟨h1, h2, _⟩ := hB j v hj
    exact ⟨h1, h2⟩
  have hall := all_any w A bs cap ht hcap hlen hbig hB
  obtain ⟨n, hn⟩ : ∃ n, n = bs.length := ⟨_, rfl⟩
  have hmk := fun W => run_make_rowN (P := Tryd.prog) 52 4 i0 _ Tryd.underlying52 hi hz0 .i64 .i64 (n + 1) (n + 1) (Nat.le_refl _) (by rw [hz2]; omega) (by omega) W
  rw [hz1, made_boolsF] at hmk
  have hfacts := allM_facts bs hv
  have herr := allF_err bs bs.length 0
  obtain ⟨r, hr⟩ : ∃ r, r = allM bs := ⟨_, rfl⟩
  have hJ : jumpsM bs = (r.2 == 0 && okFrom r.1 n r.1.length) := by rw [hr, hn]; rfl
  change (allM bs).2 ≠ 0 → (allM bs).1 = [] at herr
  rw [← hr] at hall hfacts herr
  rw [← hn] at hall hfacts hbig hlen
  rw [hJ, ← hn]
  obtain ⟨J, hJJ⟩ : ∃ J, J = (r.2 == 0 && okFrom r.1 n r.1.length) := ⟨_, rfl⟩
  rw [← hJJ]
  obtain ⟨l, err⟩ := r
  simp only at hfacts herr hJJ
  have HALL := Lib.hid hall
  have HF := Lib.hid hfacts
  have HE := Lib.hid herr
  have HJ := Lib.hid hJJ
  clear hall hfacts herr hJJ hJ hr hn hv hB ht hi hz0 hz1 hz2
  have ec : ((n + 1 : Nat) : Int) = (n : Int) + 1 := by omega
  rw [ec] at hmk
  clear ec
  go_enter Tryd.func17, Tryd.ntmps17
  have HMK := Lib.hid hmk
  clear hmk
  go_wp2_with fail
  go_step3
  go_wp2_with fail
  refine HALL.out.mono ?_
  rintro e w1 ⟨v, rfl, hown, hb1, _⟩
  obtain ⟨A1, cap1, rfl, hlc, hc1, hops⟩ := hown.reads
  clear hown HALL
  have hsz1 := hb1.size
  simp only at hops hlc ⊢
  have hmk := HMK.out
  have t1 := Blk.new w1 4 (boolsF (n + 1) fun _ => false)
  have hb2 := (Below.refl w1.heap.size w1).alloc (Nat.le_refl _) (.cells (boolsF (n + 1) fun _ => false) 4)
  obtain ⟨k, hk⟩ : ∃ k, k = l.length := ⟨_, rfl⟩
  have HK := Lib.hid hk
  have HO := Lib.hid hops
  rw [← hk] at hlc ⊢
  clear hops hk
  go_wp2_with fail
  clear hmk HMK
  generalize w1.alloc (.cells (boolsF (n + 1) fun _ => false) 4) = w2 at t1 hb2 ⊢
  have HB1 := Lib.hid hb1
  have hkl : k ≤ 4194304 := by
    by_cases he : err = 0
    · obtain ⟨hf1, hf2⟩ := HF.out he
      have := length_le_lens l hf1
      have := HK.out
      omega
    · have := HE.out he
      have := HK.out
      simp_all
  clear hb1
  go_loopg [6, 24] k (fun g s6 s24 wr => ∃ j : Nat, j + g = k ∧ s24 = .int .i64 j ∧ s6 = .int .i64 (posN l j) ∧ Blk wr w1.heap.size 4 (boolsF (n + 1) (begN l j)) ∧ Below w1.heap.size w1 wr)
  case atStart => exact ⟨0, by omega, rfl, rfl, by rw [boolsF_congr (n + 1) (begN l 0) (fun _ => false) (fun _ => rfl)]; exact t1, hb2⟩
  case round =>
    clear t1 hb2
    obtain ⟨j, hj, rfl, rfl, t1, hb2⟩ := hrel
    have hsz2 := hb2.size
    cases gk with
    | zero =>
      obtain rfl : j = k := by omega
      have hjk : ¬ ((j : Int) < j) := by omega
      have hct := (t1.cell n).trans (boolsF_get (n + 1) (begN l j) n (by omega))
      have hft := t1.frozen n
      have t2 := (t1.set_ n (.bool true))
      rw [boolsF_set] at t2
      have hb3 := hb2.setCell (p := ⟨w1.heap.size, n, none⟩) (Nat.le_refl _) (.bool true)
      obtain ⟨b0, hb0⟩ : ∃ b0, b0 = (err == 0) := ⟨_, rfl⟩
      have HB0 := Lib.hid hb0
      have hb0' : (err == 0) = b0 := hb0.symm
      clear hb0 hj
      have hpn : posN l j = lens l := posN_all l j (by have := HK.out; omega)
      go_wp2_with fail
      go_step3
      go_wp2_with fail
      generalize wr.setCell ⟨w1.heap.size, n, none⟩ (.bool true) = w3 at t2 hb3 ⊢
      clear t1 hb2 hct hft hjk hpn
      go_loopg [6, 9, 44] j (fun g s6 s9 s44 wr => ∃ i : Nat, i + g = j ∧ s44 = .int .i64 i ∧ s6 = .int .i64 (posN l i) ∧ s9 = .bool b0 ∧ Blk wr w1.heap.size 4 (boolsF (n + 1) fun x => begN l j x || n == x) ∧ Below w1.heap.size w1 wr ∧ Aside (J = (b0 && okFrom l n g)))
      case atStart => exact ⟨0, by omega, rfl, rfl, rfl, t2, hb3, by show _ = _; rw [HJ.out, HB0.out, HK.out]⟩
      case round =>
        clear t2 hb3
        obtain ⟨i, hi, rfl, rfl, rfl, t3, hb4, hJ⟩ := hrel
        have hsz4 := hb4.size
        cases gk with
        | zero =>
          have hin : ¬ ((i : Int) < j) := by omega
          have hJ1 : Aside (J = b0) := by show _ = _; rw [hJ.out, okFrom, Bool.and_true]
          clear hJ
          go_wp2
          go_ret
          rw [hJ1.out]
          exact ⟨rfl, (HB1.out).trans (hb4.mono hsz1)⟩
        | succ g =>
          have hij : (i : Int) < j := by omega
          have hil : i < l.length := by have := HK.out; omega
          obtain ⟨o, ho⟩ : ∃ o, l[i]? = some o := ⟨_, List.getElem?_eq_getElem hil⟩
          have herr : err = 0 := by
            rcases Int.lt_trichotomy err 0 with h | h | h
            · have := HE.out (by omega); simp_all
            · exact h
            · have := HE.out (by omega); simp_all
          have hb0t : b0 = true := by rw [HB0.out, herr]; rfl
          subst hb0t
          obtain ⟨hf1, hf2⟩ := HF.out herr
          obtain ⟨hl1, hl2, hn1, hn2⟩ := hf1 o (List.mem_of_getElem? ho)
          have hp := posN_next l i o ho
          have hple2 := posN_le l (i + 1)
          obtain ⟨q, hq⟩ : ∃ q : Nat, o.l = q := ⟨o.l.toNat, by omega⟩
          have hp' : posN l (i + 1) = posN l i + q := by rw [hp, hq]; rfl
          have hpn2 : posN l i + q ≤ n := by omega
          have HP := Lib.hid hp'
          have hJ1 := hJ.out
          have hidx : l.length - (g + 1) = i := by have := HK.out; omega
          rw [okFrom, hidx, ho, Bool.true_and] at hJ1
          have HJ1 : Aside (J = (okAt l n i o && okFrom l n g)) := hJ1
          obtain ⟨b, off, rfl, hbl, c0, c1, c2, c3⟩ := (HO.out.below hb4) i o ho
          rw [hq] at c3
          have t4 := t3.alloc (.cells #[.int .i64 o.k, .int .i64 o.n, .int .i64 o.m, .int .i64 (q : Int)] 25)
          have hb5 := hb4.alloc hsz4 (.cells #[.int .i64 o.k, .int .i64 o.n, .int .i64 o.m, .int .i64 (q : Int)] 25)
          clear hJ hJ1 hidx hp hp' hq ho hil hf1 hf2 hple2 hl1 hl2 t3 hb4
          have hcs : (o.k == 0) = true ∨ ((o.k == 0) = false ∧ (o.k == 22) = false ∧ (o.k == 23) = false ∧ (o.k == 24) = false) ∨ ((o.k == 0) = false ∧ ((o.k == 22) = true ∨ ((o.k == 22) = false ∧ ((o.k == 23) = true ∨ ((o.k == 23) = false ∧ (o.k == 24) = true))))) := by
            cases o.k == 0 <;> cases o.k == 22 <;> cases o.k == 23 <;> cases o.k == 24 <;> simp
          rcases hcs with h1 | ⟨h1, h2, h3, h4⟩ | ⟨h1, h2⟩
          · have hok : okAt l n i o = false := by rw [okAt, h1]; rfl
            have HOK : Aside (J = false) := by show _ = _; rw [HJ1.out, hok]; rfl
            clear hok HJ1
            go_wp2
            try rw [Exit.noGoto_ret]
            go_ret
            rw [HOK.out]
            exact ⟨rfl, (HB1.out).trans (hb5.mono hsz1)⟩
          · have hok : okAt l n i o = true := by rw [okAt, h1, h2, h3, h4]; rfl
            have HOK : Aside (J = (true && okFrom l n g)) := by show _ = _; rw [HJ1.out, hok]
            clear hok HJ1
            go_wp2
            go_roundg g
            case measure => omega
            case rel => exact ⟨i + 1, by omega, by go_num, by rw [HP.out]; go_num, rfl, t4, hb5, HOK⟩
          · obtain ⟨T, hT⟩ : ∃ T : Int, T = (posN l i : Int) + (q : Int) + o.n := ⟨_, rfl⟩
            have hk3 : (o.k == 22 || (o.k == 23 || o.k == 24)) = true := by
              rcases h2 with h2 | ⟨_, h2 | ⟨_, h2⟩⟩ <;> rw [h2] <;> simp
            have hpI : ((posN l (i + 1) : Nat) : Int) + o.n = T := by rw [HP.out, hT]; omega
            have hok : okAt l n i o = (decide (0 ≤ T) && (decide (T ≤ n) && (begN l l.length T.toNat || T.toNat == n))) := by
              rw [okAt, h1, hk3, hpI]; rfl
            have HOK := Lib.hid hok
            have hbnd : -9223372036854775808 ≤ (posN l i : Int) + (q : Int) + o.n ∧ (posN l i : Int) + (q : Int) + o.n ≤ 9223372036854775807 := by omega
            clear hok hk3 hpI
            by_cases hT0 : T < 0
            · have hT1 : (posN l i : Int) + (q : Int) + o.n < 0 := by omega
              have HF1 : Aside (J = false) := by show _ = _; rw [HJ1.out, HOK.out, decide_eq_false (by omega)]; rfl
              clear HJ1 HOK hT hT0 h1
              rcases h2 with h2 | ⟨h3, h2 | ⟨h4, h2⟩⟩
              all_goals
                go_wp2
                try rw [Exit.noGoto_ret]
                go_ret
                rw [HF1.out]
                exact ⟨rfl, (HB1.out).trans (hb5.mono hsz1)⟩
            · by_cases hTn : (n : Int) < T
              · have hT1 : (n : Int) < (posN l i : Int) + (q : Int) + o.n := by omega
                have hT2 : 0 ≤ (posN l i : Int) + (q : Int) + o.n := by omega
                have HF1 : Aside (J = false) := by show _ = _; rw [HJ1.out, HOK.out, decide_eq_false (p := T ≤ n) (by omega)]; simp
                clear HJ1 HOK hT hT0 h1 hTn
                rcases h2 with h2 | ⟨h3, h2 | ⟨h4, h2⟩⟩
                all_goals
                  go_wp2
                  try rw [Exit.noGoto_ret]
                  go_ret
                  rw [HF1.out]
                  exact ⟨rfl, (HB1.out).trans (hb5.mono hsz1)⟩
              · have hT1 : (posN l i : Int) + (q : Int) + o.n ≤ (n : Int) := by omega
                have hT2 : 0 ≤ (posN l i : Int) + (q : Int) + o.n := by omega
                obtain ⟨bb, hbb⟩ : ∃ bb, bb = (begN l j T.toNat || n == T.toNat) := ⟨_, rfl⟩
                have hcell := (t4.cell ((posN l i : Int) + (q : Int) + o.n).toNat).trans (boolsF_get (n + 1) (fun x => begN l j x || n == x) ((posN l i : Int) + (q : Int) + o.n).toNat (by omega))
                rw [← hT] at hcell
                simp only [← hbb] at hcell
                rw [hT] at hcell
                have hbb2 : okAt l n i o = bb := by
                  rw [HOK.out, hbb, ← HK.out, decide_eq_true (p := 0 ≤ T) (by omega), decide_eq_true (p := T ≤ n) (by omega)]
                  have : (T.toNat == n) = (n == T.toNat) := by
                    rw [Bool.eq_iff_iff]; simp; omega
                  rw [this]; simp
                have HF1 : Aside (J = (bb && okFrom l n g)) := by show _ = _; rw [HJ1.out, hbb2]
                clear HJ1 HOK hT hT0 h1 hTn hbb hbb2
                cases bb
                · rcases h2 with h2 | ⟨h3, h2 | ⟨h4, h2⟩⟩
                  all_goals
                    go_wp2
                    try rw [Exit.noGoto_ret]
                    go_ret
                    rw [HF1.out]
                    exact ⟨by simp, (HB1.out).trans (hb5.mono hsz1)⟩
                · rcases h2 with h2 | ⟨h3, h2 | ⟨h4, h2⟩⟩
                  all_goals
                    go_wp2
                    go_roundg g
                    case measure => omega
                    case rel => exact ⟨i + 1, by omega, by go_num, by rw [HP.out]; go_num, rfl, t4, hb5, HF1⟩
    | succ g =>
      have hjk : (j : Int) < k := by omega
      have hjl : j < l.length := by have := HK.out; omega
      obtain ⟨o, ho⟩ : ∃ o, l[j]? = some o := ⟨_, List.getElem?_eq_getElem hjl⟩
      have herr : err = 0 := by
        rcases Int.lt_trichotomy err 0 with h | h | h
        · have := HE.out (by omega); simp_all
        · exact h
        · have := HE.out (by omega); simp_all
      obtain ⟨hf1, hf2⟩ := HF.out herr
      obtain ⟨hl1, hl2, _, _⟩ := hf1 o (List.mem_of_getElem? ho)
      have hp := posN_next l j o ho
      have hple := posN_le l j
      have hple2 := posN_le l (j + 1)
      obtain ⟨q, hq⟩ : ∃ q : Nat, o.l = q := ⟨o.l.toNat, by omega⟩
      have hp' : posN l (j + 1) = posN l j + q := by rw [hp, hq]; rfl
      have hpn : posN l j < n + 1 := by omega
      have hpn2 : posN l j + q ≤ n := by omega
      have HP := Lib.hid hp'
      obtain ⟨b, off, rfl, hbl, c0, c1, c2, c3⟩ := (HO.out.below hb2) j o ho
      rw [hq] at c3
      have hct := fun o1 => ((t1.alloc o1).cell (posN l j)).trans (boolsF_get (n + 1) (begN l j) (posN l j) hpn)
      have hft := fun o1 => (t1.alloc o1).frozen (posN l j)
      have t3 := ((t1.set_ (posN l j) (.bool true)).alloc (.cells #[.int .i64 o.k, .int .i64 o.n, .int .i64 o.m, .int .i64 (q : Int)] 25))
      rw [boolsF_set, boolsF_congr (n + 1) (fun x => begN l j x || posN l j == x) (begN l (j + 1)) (fun x => (begN_next l j x).symm)] at t3
      have hb3 := (hb2.setCell (p := ⟨w1.heap.size, posN l j, none⟩) (Nat.le_refl _) (.bool true)).alloc (by simp [World.setCell]; omega) (.cells #[.int .i64 o.k, .int .i64 o.n, .int .i64 o.m, .int .i64 (q : Int)] 25)
      have hlt1 := t1.lt
      have bo := (Blk.new wr 25 #[.int .i64 o.k, .int .i64 o.n, .int .i64 o.m, .int .i64 (q : Int)]).far (p := ⟨w1.heap.size, posN l j, none⟩) (by simp; omega) (.bool true)
      have d3 := bo.cell 3
      simp at d3
      clear hp hp' hq ho hjl hf1 hf2 herr hple hple2 hl1 hl2 bo
      go_wp2
      go_roundg g
      case measure => omega
      case rel => exact ⟨j + 1, by omega, by go_num, by rw [HP.out]; go_num, t3, hb3⟩
end Go.Proofs.YtdbignfpmpohiaaDoor
