/-
  The walk of ClockTouches: who was touched goes behind all that were not; what comes anew is not touched, nor pinned. Conditions: none.
-/
import Derived.Test.YtpekigmkmeapaaaPins
namespace Go.Proofs.Ytpekigmkmeapaaa
open Go.RowKit

/-- what is known of a slice of integers that came in -/
def IsRow (k : IntKind) (w : World) (a : Option Addr) (len cap : Nat) (zs : List Int) : Prop :=
  (a = none ∧ len = 0 ∧ cap = 0 ∧ zs = []) ∨
  ∃ x, a = some x ∧ len ≤ cap ∧ cap ≤ maxLen ∧ zs.length = cap ∧ (∀ i, i < zs.length → w.cell? (x.add i) = some (.int k (zs.getD i 0))) ∧ ∀ n ∈ zs, (Lit.int k n).wf = true

/-- its elements, one by one, in every world in which nothing old has turned -/
def Elems (w : World) (A : Option Addr) (len : Nat) (zs : List Int) : Prop :=
  ∀ j, j < len → ∃ b off v, A = some ⟨b, off, none⟩ ∧ b < w.heap.size ∧ zs[j]? = some v ∧ 0 ≤ v ∧ v ≤ 255 ∧ w.cell? ⟨b, off + j, none⟩ = some (.int .u8 v)

theorem cell_spot {w : World} {a : Addr} {v : Value} (h : w.cell? a = some v) : a.spot = none := by
  unfold World.cell? at h
  split at h
  · split at h
    · cases h
    · rename_i hs; simpa using hs
  · cases h

theorem IsRow.elems {w : World} {A : Option Addr} {len cap : Nat} {zs : List Int} (h : IsRow .u8 w A len cap zs) : len ≤ 9223372036854775807 ∧ Elems w A len zs := by
  rcases h with ⟨rfl, rfl, rfl, rfl⟩ | ⟨x, rfl, h1, h2, h3, h4, h5⟩
  · exact ⟨by omega, fun j hj => absurd hj (by omega)⟩
  · unfold maxLen at h2
    refine ⟨by omega, fun j hj => ?_⟩
    have hc0 := h4 0 (by omega)
    have hs : x.spot = none := by
      have := cell_spot hc0
      simpa [Addr.add] using this
    obtain ⟨b, off, sp⟩ := x
    simp only at hs
    subst hs
    have hc := h4 j (by omega)
    have hadd : (⟨b, off, none⟩ : Addr).add j = ⟨b, off + j, none⟩ := by unfold Addr.add; split <;> simp_all
    rw [hadd] at hc
    have hz : zs[j]? = some (zs.getD j 0) := by
      rw [List.getElem?_eq_getElem (by omega), List.getD_eq_getElem?_getD, List.getElem?_eq_getElem (by omega)]
      rfl
    have hb := u8_bd (h5 _ (List.mem_of_getElem? hz))
    exact ⟨b, off, _, rfl, World.block_lt_of_cell? w _ hc, hz, hb.1, hb.2, hc⟩

/-- all are in, some are touched -/
def tl (T : List Bool) : List Pl := T.map fun t => ⟨true, t, false⟩
theorem tl_length (T : List Bool) : (tl T).length = T.length := by simp [tl]
theorem tl_get (T : List Bool) (i : Nat) (t : Bool) (h : T[i]? = some t) : (tl T)[i]? = some ⟨true, t, false⟩ := by simp [tl, h]
theorem tl_set (T : List Bool) (i : Nat) (t : Bool) : (tl T).set i ⟨true, t, false⟩ = tl (T.set i t) := by simp [tl, List.map_set]
theorem tl_false (k : Nat) : tl (List.replicate k false) = allL k := by simp [tl, allL]
theorem touch_tl (T : List Bool) (i : Nat) (h : i < T.length) : touchL (tl T) [i] = tl (T.set i true) := by
  have hx := tl_get T i T[i] (List.getElem?_eq_getElem h)
  rw [touchL, hx]
  show touchL ((tl T).set i ⟨true, true, false⟩) [] = _
  rw [touchL, tl_set]

/-- how many are not touched -/
def colds (T : List Bool) : Nat := T.countP (!·)
theorem colds_le (T : List Bool) : colds T ≤ T.length := List.countP_le_length
theorem colds_fresh (k : Nat) : colds (List.replicate k false) = k := by
  induction k with
  | zero => rfl
  | succ k ih =>
    simp only [colds, List.replicate_succ, List.countP_cons] at *
    simp [ih]
theorem colds_set_new (T : List Bool) (i : Nat) (h : T[i]? = some false) : colds (T.set i true) + 1 = colds T := by
  induction T generalizing i with
  | nil => simp at h
  | cons x T ih =>
    cases i with
    | zero => simp at h; subst h; simp [colds]
    | succ i =>
      simp at h
      have := ih i h
      simp only [colds, List.set_cons_succ, List.countP_cons] at *
      omega
theorem colds_set_old (T : List Bool) (i : Nat) (h : T[i]? = some true) : T.set i true = T := by
  apply List.ext_getElem?
  intro j
  rw [List.getElem?_set]
  by_cases e : i = j
  · subst e
    have := (List.getElem?_eq_some_iff.1 h).1
    rw [if_pos rfl, if_pos this, h]
  · rw [if_neg e]

/-- from q on the places are as T says -/
def From (L : List Pl) (T : List Bool) (q : Nat) : Prop := L.length = T.length ∧ ∀ j, q ≤ j → L[j]? = (tl T)[j]?

theorem vic_cold (T : List Bool) : ∀ (d f q : Nat) (L : List Pl), T.length - q = d → d ≤ f → From L T q → q < T.length → 0 < colds (T.drop q) →
    ∃ (v : Nat) (L' : List Pl), vic f L q = (L', (v + 1) % T.length, some v) ∧ q ≤ v ∧ v < T.length ∧ T[v]? = some false ∧ From L' T (v + 1) ∧ colds (T.drop q) = colds (T.drop (v + 1)) + 1 := by
  intro d
  induction d with
  | zero => intro f q L hd _ _ hq _; omega
  | succ d ih =>
    intro f q L hd hf hfr hq hc
    obtain ⟨f, rfl⟩ : ∃ f', f = f' + 1 := ⟨f - 1, by omega⟩
    obtain ⟨t, ht⟩ : ∃ t, T[q]? = some t := ⟨_, List.getElem?_eq_getElem hq⟩
    have hL : L[q]? = some ⟨true, t, false⟩ := (hfr.2 q (Nat.le_refl _)).trans (tl_get T q t ht)
    have hdrop : T.drop q = t :: T.drop (q + 1) := by
      rw [List.drop_eq_getElem_cons hq]
      rw [List.getElem?_eq_getElem hq] at ht
      injection ht with ht
      rw [ht]
    cases t with
    | false =>
      refine ⟨q, L, ?_, Nat.le_refl _, hq, ht, ⟨hfr.1, fun j hj => hfr.2 j (by omega)⟩, ?_⟩
      · rw [vic, hL, hfr.1]; rfl
      · rw [hdrop]; simp [colds]
    | true =>
      rw [hdrop] at hc ⊢
      have hc' : colds (true :: T.drop (q + 1)) = colds (T.drop (q + 1)) := by simp [colds]
      rw [hc'] at hc ⊢
      have hq1 : q + 1 < T.length := by
        rcases Nat.lt_or_ge (q + 1) T.length with h | h
        · exact h
        · rw [List.drop_eq_nil_of_le h] at hc
          simp [colds] at hc
      have hfr' : From (L.set q ⟨true, false, false⟩) T (q + 1) := by
        refine ⟨by simpa using hfr.1, fun j hj => ?_⟩
        rw [List.getElem?_set_ne (by omega)]
        exact hfr.2 j (by omega)
      obtain ⟨v, L', hv, h1, h2, h3, h4, h5⟩ := ih f (q + 1) _ (by omega) (by omega) hfr' hq1 hc
      refine ⟨v, L', ?_, by omega, h2, h3, h4, h5⟩
      rw [vic, hL, hfr.1]
      show vic f (L.set q ⟨true, false, false⟩) ((q + 1) % T.length) = _
      rw [Nat.mod_eq_of_lt hq1]
      exact hv

theorem vic_cold' (T : List Bool) (q : Nat) (L : List Pl) (hfr : From L T q) (hc : 0 < colds (T.drop q)) :
    q < T.length ∧ ∃ (v : Nat) (L' : List Pl), vic (2 * L.length) L (q % T.length) = (L', (v + 1) % T.length, some v) ∧ v < T.length ∧ T[v]? = some false ∧ From L' T (v + 1) ∧ colds (T.drop q) = colds (T.drop (v + 1)) + 1 := by
  have hq : q < T.length := by
    rcases Nat.lt_or_ge q T.length with h | h
    · exact h
    · rw [List.drop_eq_nil_of_le h] at hc
      simp [colds] at hc
  rw [Nat.mod_eq_of_lt hq, hfr.1]
  obtain ⟨v, L', h1, _, h2, h3, h4, h5⟩ := vic_cold T _ (2 * T.length) q L rfl (by omega) hfr hq hc
  exact ⟨hq, v, L', h1, h2, h3, h4, h5⟩

theorem From.take {L : List Pl} {T : List Bool} {v : Nat} (h : From L T (v + 1)) (x : Pl) : From (L.set v x) T (v + 1) :=
  ⟨by simpa using h.1, fun j hj => by rw [List.getElem?_set_ne (by omega)]; exact h.2 j hj⟩

def bools (T : List Bool) : Array Value := (T.map Value.bool).toArray
theorem bools_get (T : List Bool) (j : Nat) (t : Bool) (h : T[j]? = some t) : (bools T)[j]? = some (.bool t) := by simp [bools, h]
theorem bools_set (T : List Bool) (j : Nat) (t : Bool) : (bools T).setIfInBounds j (.bool t) = bools (T.set j t) := by simp [bools, List.map_set]

theorem Clk.apart {w : World} {c lb h tb : Nat} {L : List Pl} {cs : Array Value} {t : TypeId} (k : Clk w c lb L h) (ht : Blk w tb t cs) (h1 : t ≠ 51) (h2 : t ≠ 58) : tb ≠ c ∧ tb ≠ lb := by
  constructor
  · rintro rfl
    have := k.head
    unfold Blk at this ht
    rw [this] at ht
    injection ht with ht
    injection ht with _ ht
    exact h1 ht.symm
  · rintro rfl
    have := k.body
    unfold Blk at this ht
    rw [this] at ht
    injection ht with ht
    injection ht with _ ht
    exact h2 ht.symm

theorem Try.info4 : (Try.prog.info? 4).map (fun i => (i.zero, i.size, i.bytes)) = some (some (.bool false), 1, 1) := by kernel_rfl
theorem made_bools (n : Nat) : madeCells (Value.cells (.bool false)) (n * 1) = bools (List.replicate n false) := by
  apply Array.ext
  · simp [madeCells, bools]
  · intro i h1 h2
    have : i % 1 = 0 := by omega
    simp [madeCells, bools, Value.cells, this]

set_option maxHeartbeats 2000000 in
theorem touches_long (a0 : Int) (A : Option Addr) (len cap : Nat) (w : World) (b0 : 0 ≤ a0 ∧ a0 ≤ 255) (hl : len ≤ 9223372036854775807) (hlen : 60 < len) :
    Calls Try.prog 5 #[.int .u8 a0, .slice A len cap] w fun e w' => e = .returned (.bool true) ∧ Below w.heap.size w w' := by
  go_enter Try.func5, Try.ntmps5
  go_wp2_with (go_at_call 12; refine (known_any _).mono ?_; rintro e w6 ⟨rfl, hb6⟩)
  go_ret
  exact ⟨rfl, hb6⟩

set_option maxHeartbeats 4000000 in
theorem touches_walk (a0 : Int) (A : Option Addr) (len cap : Nat) (zs : List Int) (k : Nat) (w : World) (b0 : 0 ≤ a0 ∧ a0 ≤ 255) (hl : len ≤ 60) (hE : Elems w A len zs) (hk : 1 + a0 % 20 = (k : Int)) :
    Calls Try.prog 5 #[.int .u8 a0, .slice A len cap] w fun e w' => e = .returned (.bool true) ∧ Below w.heap.size w w' := by
  have hkp : 0 < k ∧ k ≤ 20 := by omega
  obtain ⟨i0, hi, hz0, hz1, hz2⟩ := info_parts Try.info4
  have hmk := fun W => run_make_rowN (P := Try.prog) 34 4 i0 _ Try.underlying34 hi hz0 .i64 .i64 k k (Nat.le_refl _) (by rw [hz2]; omega) (by omega) W
  rw [hz1, made_bools] at hmk
  clear hi hz0 hz1 hz2
  have HE := Lib.hid hE
  clear hE
  go_enter Try.func5, Try.ntmps5
  go_wp2_with fail
  refine (new_ok _ k (by omega)).mono ?_
  rintro e w1 ⟨c, lb, rfl, k0, hb0, hc, hlb⟩
  rw [← inL_zero] at k0
  go_wp2_with fail
  clear hk
  go_loopg [8] k (fun g s11 wr => ∃ j : Nat, j + g = k ∧ s11 = .int .i64 j ∧ Clk wr c lb (inL j k) 0 ∧ Below w.heap.size w wr)
  case atStart => exact ⟨0, by omega, rfl, k0, hb0⟩
  case round =>
    obtain ⟨j, hj, rfl, k1, hb1⟩ := hrel
    have hsz1 := hb1.size
    cases gk with
    | succ g =>
      have hjn : (j : Int) < k := by omega
      clear k0 hb0 hmk
      go_wp2_with (go_at_call 9; refine (in_ok _ _ _ _ _ _ _ k1 (by rw [inL_length _ _ (by omega)]; omega)).mono ?_; rintro e w2 ⟨rfl, k2, ho2⟩)
      rw [inL_set j k (by omega)] at k2
      go_roundg g
      case measure => omega
      case rel => exact ⟨j + 1, by omega, by go_num, k2, ho2.below hb1 hsz1 hc hlb⟩
    | zero =>
      have hjn : ¬ ((j : Int) < k) := by omega
      obtain rfl : j = k := by omega
      rw [inL_all] at k1
      change Clk wr c lb (allL j) 0 at k1
      rw [← tl_false] at k1
      clear hj k0 hb0
      have t1 := Blk.new wr 4 (bools (List.replicate j false))
      have k2 := k1.alloc (.cells (bools (List.replicate j false)) 4)
      have hb2 := hb1.alloc hsz1 (.cells (bools (List.replicate j false)) 4)
      obtain ⟨tb, htb⟩ : ∃ tb, tb = wr.heap.size := ⟨_, rfl⟩
      have htbB : w.heap.size ≤ tb := by omega
      go_wp2
      clear hmk
      rw [← htb] at t1 ⊢
      obtain ⟨w2, hw2⟩ : ∃ w2, w2 = wr.alloc (.cells (bools (List.replicate j false)) 4) := ⟨_, rfl⟩
      rw [← hw2] at t1 k2 hb2 ⊢
      clear hw2 k1 hb1 hsz1 hjn htb
      go_loopg [10, 11] len (fun g s10 s11 wr => ∃ (i : Nat) (T : List Bool), i + g = len ∧ s11 = .int .i64 i ∧ s10 = .int .i64 (colds T) ∧ Aside (T.length = j) ∧ Clk wr c lb (tl T) 0 ∧ Blk wr tb 4 (bools T) ∧ Below w.heap.size w wr)
      case atStart => exact ⟨0, List.replicate j false, by omega, rfl, by rw [colds_fresh], by show _ = _; simp, k2, t1, hb2⟩
      case round =>
        clear k2 t1 hb2
        obtain ⟨i, T, hi, rfl, rfl, hT, k3, t3, hb3⟩ := hrel
        have hsz3 := hb3.size
        cases gk with
        | zero =>
          have hin : ¬ ((i : Int) < len) := by omega
          go_wp2
          have hcl : colds T ≤ j := by have := colds_le T; have := hT.out; omega
          clear hin hi HE
          go_loopg [13] (colds T) (fun g s13 wr => ∃ (i q h : Nat) (L1 : List Pl), i + g = colds T ∧ s13 = .int .i64 i ∧ Aside (From L1 T q ∧ colds (T.drop q) = g ∧ h = q % j) ∧ Clk wr c lb L1 h ∧ Blk wr tb 4 (bools T) ∧ Below w.heap.size w wr)
          case atStart => exact ⟨0, 0, 0, tl T, by omega, rfl, ⟨⟨tl_length T, fun _ _ => rfl⟩, by rw [List.drop_zero], by rw [Nat.zero_mod]⟩, k3, t3, hb3⟩
          case round =>
            clear k3 t3 hb3 hsz3
            obtain ⟨i, q, h, L1, hi, rfl, hA, k3, t3, hb3⟩ := hrel
            have hsz3 := hb3.size
            have hap := k3.apart t3 (by decide) (by decide)
            cases gk with
            | zero =>
              have hin : ¬ ((i : Int) < colds T) := by omega
              obtain ⟨hfr, _, _⟩ := hA.out
              have hLl : L1.length = j := hfr.1.trans hT.out
              have HL := Lib.hid hLl
              have hLs : 0 < (L1.set 0 ⟨true, false, false⟩).length := by rw [List.length_set]; omega
              have hx : (L1.set 0 ⟨true, false, false⟩)[0]? = some ⟨true, false, false⟩ := List.getElem?_set_self (by omega)
              have HX := Lib.hid hx
              clear hfr hLl hx hA hLs
              have p1 := Blk.new wr 38 #[.slice none 0 0, .int .i64 0]
              have k3' := k3.alloc (.cells #[.slice none 0 0, .int .i64 0] 38)
              have hb3' := hb3.alloc hsz3 (.cells #[.slice none 0 0, .int .i64 0] 38)
              have hap' := k3'.apart p1 (by decide) (by decide)
              have hsz3' := hb3'.size
              clear k3 hb3 t3 hap
              go_wp2_with fail
              refine (in_ok _ c lb _ _ 0 true k3' (by rw [HL.out]; omega)).mono ?_
              rintro e w5 ⟨rfl, k5, ho5⟩
              have p5 := ho5.blk p1 hap'.1 hap'.2
              have hb5 := ho5.below hb3' hsz3' hc hlb
              have hsz5 := hb5.size
              clear k3' p1 hb3' hsz3' ho5
              go_wp2_with fail
              refine (is_ok _ c lb _ _ 0 ⟨true, false, false⟩ k5 HX.out).mono ?_
              rintro e w6 ⟨rfl, k6, ho6⟩
              have p6 := ho6.blk p5 hap'.1 hap'.2
              have hb6 := ho6.below hb5 hsz5 hc hlb
              have hsz6 := hb6.size
              have hc6 : w6.cell? ⟨wr.heap.size, 1, none⟩ = some (.int .i64 0) := p6.cell 1
              clear k5 p5 hb5 hsz5 ho6
              go_wp2_with (go_at_call 12; refine (known_any _).mono ?_; rintro e w8 ⟨rfl, hb8⟩)
              go_ret
              exact ⟨rfl, hb6.trans (hb8.mono hsz6)⟩
            | succ g =>
              have hin : (i : Int) < colds T := by omega
              obtain ⟨hfr, hcd, hh⟩ := hA.out
              obtain ⟨hqT, v, L', hv, hvT, htv, hfr', hcd'⟩ := vic_cold' T q L1 hfr (by omega)
              rw [hT.out] at hv hvT hqT
              rw [← hh] at hv
              have hLl : L1.length = j := hfr.1.trans hT.out
              have hLl' : L'.length = j := hfr'.1.trans hT.out
              have hhj : h < j := by rw [hh]; exact Nat.mod_lt _ (by omega)
              have HV := Lib.hid hv
              have HL := Lib.hid hLl
              have HL' := Lib.hid hLl'
              have HN : Aside (From (L'.set v ⟨false, false, false⟩) T (v + 1) ∧ colds (T.drop (v + 1)) = g) := ⟨hfr'.take _, by omega⟩
              have htc := bools_get T v false htv
              have HTC := Lib.hid htc
              clear hfr hcd hh hv hLl hLl' htv hfr' hcd' hA hqT htc
              go_wp2_with fail
              refine (victim_some _ c lb h _ v L1 L' k3 (Or.inl (by rw [HL.out]; exact hhj)) HV.out).mono ?_
              rintro e w4 ⟨rfl, k4, ho4⟩
              have t4 := ho4.blk t3 hap.1 hap.2
              have hb4 := ho4.below hb3 hsz3 hc hlb
              have hsz4 := hb4.size
              have hc4 : w4.cell? ⟨tb, v, none⟩ = some (.bool false) := (t4.cell v).trans HTC.out
              clear k3 ho4 t3 hb3 hsz3
              go_wp2_with fail
              refine (in_ok _ c lb _ _ v false k4 (by rw [HL'.out]; exact hvT)).mono ?_
              rintro e w5 ⟨rfl, k5, ho5⟩
              have t5 := ho5.blk t4 hap.1 hap.2
              have hb5 := ho5.below hb4 hsz4 hc hlb
              clear k4 ho5 t4 hb4 hsz4 hc4
              go_wp2
              go_roundg g
              case measure => omega
              case rel => exact ⟨i + 1, v + 1, _, _, by omega, by go_num, ⟨HN.out.1, HN.out.2, rfl⟩, k5, t5, hb5⟩
        | succ g =>
          have hin : (i : Int) < len := by omega
          obtain ⟨b, off, vi, hA, hbB, _, hv0, hv1, hcell⟩ := HE.out i (by omega)
          subst hA
          obtain ⟨vn, rfl⟩ : ∃ vn : Nat, vi = vn := ⟨vi.toNat, by omega⟩
          have hcw := (hb3.cell (p := ⟨b, off + i, none⟩) hbB).trans hcell
          clear hcell
          obtain ⟨p, hp⟩ : ∃ p, p = vn % j := ⟨_, rfl⟩
          have hpj : p < j := by rw [hp]; exact Nat.mod_lt _ (by omega)
          have hpI : (vn : Int) % (j : Int) = (p : Int) := by rw [hp]; simp
          have hTl := hT.out
          have hpT : p < T.length := by omega
          obtain ⟨t, ht⟩ : ∃ t, T[p]? = some t := ⟨_, List.getElem?_eq_getElem hpT⟩
          have hcl : colds T ≤ j := by have := colds_le T; omega
          have hap := k3.apart t3 (by decide) (by decide)
          have HP := Lib.hid hpI
          have HT := Lib.hid ht
          clear hp hpI ht hTl hpT
          go_wp2_with fail
          rw [HP.out]
          refine (touch_ok _ c lb 0 wr.heap.size _ [p] (k3.alloc _) (Blk.new wr 3 _) (by simp) ?_).mono ?_
          · intro q hq
            obtain rfl : q = p := by simpa using hq
            exact ⟨_, tl_get T q t HT.out, rfl⟩
          rintro e w4 ⟨rfl, k4, ho4⟩
          rw [touch_tl T p (by rw [hT.out]; exact hpj)] at k4
          have t4 := ho4.blk (t3.alloc _) hap.1 hap.2
          have hb4 := ho4.below (hb3.alloc hsz3 _) (by simp; omega) hc hlb
          have hc4 : w4.cell? ⟨tb, p, none⟩ = some (.bool t) := (t4.cell p).trans (bools_get T p t HT.out)
          have hf4 := t4.frozen p
          have t5 := t4.set_ p (.bool true)
          rw [bools_set] at t5
          have k5 := k4.far (p := ⟨tb, p, none⟩) (Ne.symm hap.1) (Ne.symm hap.2) (.bool true)
          have hb5 := hb4.setCell (p := ⟨tb, p, none⟩) htbB (.bool true)
          clear k3 t3 hb3 ho4 k4 t4 hb4 hap hcw
          cases t with
          | false =>
            have hcs := colds_set_new T p HT.out
            have HCS := Lib.hid hcs
            clear hcs
            go_wp2
            go_roundg g
            case measure => omega
            case rel => exact ⟨i + 1, T.set p true, by omega, by go_num, by have := HCS.out; congr 1; omega, by show _ = _; rw [List.length_set]; exact hT.out, k5, t5, hb5⟩
          | true =>
            have hcs := colds_set_old T p HT.out
            rw [hcs] at t5 k5
            clear hcs
            go_wp2
            go_roundg g
            case measure => omega
            case rel => exact ⟨i + 1, T, by omega, by go_num, rfl, hT, k5, t5, hb5⟩

theorem touches_bd (a0 : Int) (a1 : Option Addr) (len1 cap1 : Nat) (z1 : List Int) (w : World) (w0 : (Lit.int .u8 a0).wf = true) (w1 : IsRow .u8 w a1 len1 cap1 z1) :
    Calls Try.prog 5 #[.int .u8 a0, .slice a1 len1 cap1] w fun e w' => e = .returned (.bool true) ∧ Below w.heap.size w w' := by
  obtain ⟨hl, hE⟩ := w1.elems
  have b0 := u8_bd w0
  by_cases h : 60 < len1
  · exact touches_long a0 a1 len1 cap1 w b0 hl h
  · exact touches_walk a0 a1 len1 cap1 z1 (1 + a0 % 20).toNat w b0 (by omega) hE (by omega)
end Go.Proofs.Ytpekigmkmeapaaa
