/-
  The walk of ClockFair: a victim is in, and not pinned; there is none, just if all that are in are pinned; taken out each time, all that may go do. Conditions: none.
-/
import Derived.Test.YtpekigmkmeapaaaDone
import Derived.Test.YtpekigmkmeapaaaTch
namespace Go.Proofs.Ytpekigmkmeapaaa
open Go.RowKit

def Pl.cold (x : Pl) : Bool := x.i && !x.p && !x.t
def Pl.warm (x : Pl) : Bool := x.i && !x.p && x.t
def coldN (L : List Pl) (i : Nat) : Nat := (L.take i).countP Pl.cold
def warmN (L : List Pl) (i : Nat) : Nat := (L.take i).countP Pl.warm

theorem take_next (L : List Pl) (i : Nat) (x : Pl) (h : L[i]? = some x) : L.take (i + 1) = L.take i ++ [x] := by
  have hi := (List.getElem?_eq_some_iff.1 h).1
  rw [List.take_succ_eq_append_getElem hi]
  rw [List.getElem?_eq_getElem hi] at h
  injection h with h
  rw [h]
theorem coldN_next (L : List Pl) (i : Nat) (x : Pl) (h : L[i]? = some x) : coldN L (i + 1) = coldN L i + if x.cold then 1 else 0 := by
  rw [coldN, take_next L i x h, List.countP_append, coldN]; simp [List.countP_cons]
theorem warmN_next (L : List Pl) (i : Nat) (x : Pl) (h : L[i]? = some x) : warmN L (i + 1) = warmN L i + if x.warm then 1 else 0 := by
  rw [warmN, take_next L i x h, List.countP_append, warmN]; simp [List.countP_cons]
theorem coldN_le (L : List Pl) (i : Nat) : coldN L i ≤ i := Nat.le_trans List.countP_le_length (by rw [List.length_take]; omega)
theorem warmN_le (L : List Pl) (i : Nat) : warmN L i ≤ i := Nat.le_trans List.countP_le_length (by rw [List.length_take]; omega)
theorem cold_warm (L : List Pl) : coldN L L.length + warmN L L.length = opens L := by
  rw [coldN, warmN, List.take_length, opens]
  induction L with
  | nil => rfl
  | cons x L ih =>
    obtain ⟨i, t, p⟩ := x
    cases i <;> cases t <;> cases p <;> simp [Pl.cold, Pl.warm, Pl.op] <;> omega

/-- its elements, one by one -/
def Dos (w : World) (A : Option Addr) (len : Nat) : Prop :=
  ∀ j, j < len → ∃ (b off : Nat) (kd i : Int), A = some ⟨b, off, none⟩ ∧ b < w.heap.size ∧ w.cell? ⟨b, off + j * 2, none⟩ = some (.int .i64 kd) ∧ w.cell? ⟨b, off + j * 2 + 1, none⟩ = some (.int .i64 i)

set_option maxHeartbeats 2000000 in
theorem fair_long (a0 : Int) (A : Option Addr) (len cap : Nat) (w : World) (hl : len ≤ 9223372036854775807) (hlen : 200 < len) :
    Calls Try.prog 6 #[.int .u8 a0, .slice A len cap] w fun e w' => e = .returned (.bool true) ∧ Below w.heap.size w w' := by
  go_enter Try.func6, Try.ntmps6
  go_wp2_with (go_at_call 12; refine (known_any _).mono ?_; rintro e w6 ⟨rfl, hb6⟩)
  go_ret
  exact ⟨rfl, hb6⟩

set_option maxRecDepth 100000 in
set_option maxHeartbeats 4000000 in
theorem fair_walk (n : Nat) (A : Option Addr) (len cap : Nat) (w : World) (hn : n ≤ 255) (hl : len ≤ 200) (hD : Dos w A len) :
    Calls Try.prog 6 #[.int .u8 n, .slice A len cap] w fun e w' => e = .returned (.bool true) ∧ Below w.heap.size w w' := by
  have HD := Lib.hid hD
  clear hD
  go_enter Try.func6, Try.ntmps6
  go_wp2_with fail
  refine (new_ok _ n (by omega)).mono ?_
  rintro e w1 ⟨c, lb, rfl, k0, hb0, hc, hlb⟩
  go_wp2_with fail
  go_loopg [7] len (fun g s7 wr => ∃ (j h : Nat) (L : List Pl), j + g = len ∧ s7 = .int .i64 j ∧ Aside (L.length = n ∧ (h < n ∨ n = 0)) ∧ Clk wr c lb L h ∧ Below w.heap.size w wr)
  case atStart => exact ⟨0, 0, fresh n, by omega, rfl, ⟨by simp [fresh], by omega⟩, k0, hb0⟩
  case round =>
    clear k0 hb0
    obtain ⟨j, h, L, hj, rfl, hL, k1, hb1⟩ := hrel
    have hsz1 := hb1.size
    cases gk with
    | succ g =>
      have hjn : (j : Int) < len := by omega
      obtain ⟨b, off, kd, ii, hA, hbB, hc1, hc2⟩ := HD.out j (by omega)
      subst hA
      have hc1' := (hb1.cell (p := ⟨b, off + j * 2, none⟩) hbB).trans hc1
      have hc2' := (hb1.cell (p := ⟨b, off + j * 2 + 1, none⟩) hbB).trans hc2
      have hh : h < L.length ∨ L.length = 0 := by rw [hL.out.1]; exact hL.out.2
      have HH := Lib.hid hh
      clear hc1 hc2 hh
      go_wp2_with (go_at_call 16; refine (done_any _ _ _ _ _ _ _ k1 HH.out).mono ?_; rintro e w2 ⟨x1, x2, x3, L', h', rfl, k2, hl2, hh2, ho2⟩)
      go_roundg g
      case measure => omega
      case rel => exact ⟨j + 1, h', L', by omega, by go_num, ⟨hl2.trans hL.out.1, by have := hL.out.1; omega⟩, k2, ho2.below hb1 hsz1 hc hlb⟩
    | zero =>
      have hjn : ¬ ((j : Int) < len) := by omega
      go_wp2
      clear hj hjn
      go_loopg [8, 9, 10] n (fun g s8 s9 s10 wr => ∃ i : Nat, i + g = n ∧ s10 = .int .i64 i ∧ s8 = .int .i64 (coldN L i) ∧ s9 = .int .i64 (warmN L i) ∧ Clk wr c lb L h ∧ Below w.heap.size w wr)
      case atStart => exact ⟨0, by omega, rfl, rfl, rfl, k1, hb1⟩
      case round =>
        clear k1 hb1 hsz1
        obtain ⟨i, hi, rfl, rfl, rfl, k3, hb3⟩ := hrel
        have hsz3 := hb3.size
        have hcl := coldN_le L i
        have hwl := warmN_le L i
        cases gk with
        | succ g =>
          have hin : (i : Int) < n := by omega
          obtain ⟨x, hx⟩ : ∃ x, L[i]? = some x := ⟨_, List.getElem?_eq_getElem (by rw [hL.out.1]; omega)⟩
          have hC := coldN_next L i x hx
          have hW := warmN_next L i x hx
          have HC := Lib.hid hC
          have HW := Lib.hid hW
          have HX := Lib.hid hx
          clear hC hW hx
          obtain ⟨xi, xt, xp⟩ := x
          cases xi <;> cases xt <;> cases xp
          all_goals
            go_wp2_with (go_at_call 15; refine (is_ok _ _ _ _ _ _ _ k3 HX.out).mono ?_; rintro e w4 ⟨rfl, k4, ho4⟩)
            go_roundg g
            case measure => omega
            case rel => exact ⟨i + 1, by omega, by go_num, by have := HC.out; simp [Pl.cold] at this; rw [this] <;> go_num, by have := HW.out; simp [Pl.warm] at this; rw [this] <;> go_num, k4, ho4.below hb3 hsz3 hc hlb⟩
        | zero =>
          have hin : ¬ ((i : Int) < n) := by omega
          obtain rfl : i = n := by omega
          have hop : coldN L i + warmN L i = opens L := by have := cold_warm L; rw [hL.out.1] at this; exact this
          obtain ⟨C, hC⟩ : ∃ C, C = coldN L i := ⟨_, rfl⟩
          obtain ⟨W, hW⟩ : ∃ W, W = warmN L i := ⟨_, rfl⟩
          have hop' : C + W = opens L := by omega
          have hCL : C ≤ i := by omega
          have hWL : W ≤ i := by omega
          have hC1 : i = 1 → 0 < C → ∀ x, L[0]? = some x → x.t = false := by
            intro h1 h2 x hx
            subst h1
            rw [hC] at h2
            have h3 := coldN_next L 0 x hx
            have h4 : coldN L 0 = 0 := rfl
            rw [Nat.zero_add, h4] at h3
            obtain ⟨xi, xt, xp⟩ := x
            cases xt
            · rfl
            · simp [Pl.cold] at h3; omega
          have HC1 := Lib.hid hC1
          have HCC := Lib.hid hC
          have HWW := Lib.hid hW
          have HOP := Lib.hid hop'
          clear hop hop' hcl hwl hC1
          rw [← hC, ← hW]
          clear hC hW
          go_wp2
          clear hi hin
          go_loopg [14] (C + W) (fun g s14 wr => ∃ (q h1 : Nat) (L1 : List Pl), q + g = C + W ∧ s14 = .int .i64 q ∧ Aside (L1.length = i ∧ (h1 < i ∨ i = 0) ∧ opens L1 = g ∧ (q = 0 → L1 = L)) ∧ Clk wr c lb L1 h1 ∧ Below w.heap.size w wr)
          case atStart => exact ⟨0, h, L, by omega, rfl, ⟨hL.out.1, hL.out.2, HOP.out.symm, fun _ => rfl⟩, k3, hb3⟩
          case round =>
            clear k3 hb3 hsz3
            obtain ⟨q, h1, L1, hq, rfl, hA, k4, hb4⟩ := hrel
            have hsz4 := hb4.size
            obtain ⟨hA1, hA2, hA3, hA4⟩ := hA.out
            cases gk with
            | zero =>
              have hqn : ¬ ((q : Int) < (C : Int) + (W : Int)) := by omega
              have hno := vic_nobody (2 * L1.length) L1 h1 hA3
              have hz : h1 < L1.length ∨ L1 = [] := by
                rcases hA2 with e | e
                · exact Or.inl (by omega)
                · exact Or.inr (List.eq_nil_of_length_eq_zero (by omega))
              have hvv : vic (2 * L1.length) L1 h1 = ((vic (2 * L1.length) L1 h1).1, (vic (2 * L1.length) L1 h1).2.1, none) := by rw [← hno]
              have HVV := Lib.hid hvv
              have HZ := Lib.hid hz
              clear hA hA1 hA2 hA3 hA4 hno hz hvv
              go_wp2_with fail
              refine (victim_none _ c lb h1 _ L1 _ k4 HZ.out HVV.out).mono ?_
              rintro e w5 ⟨rfl, k5, ho5⟩
              have hb5 := ho5.below hb4 hsz4 hc hlb
              have hsz5 := hb5.size
              go_wp2_with (go_at_call 12; refine (known_any _).mono ?_; rintro e w8 ⟨rfl, hb8⟩)
              go_ret
              exact ⟨rfl, hb5.trans (hb8.mono hsz5)⟩
            | succ g =>
              have hqn : (q : Int) < (C : Int) + (W : Int) := by omega
              have hi0 : 0 < i := by
                rcases Nat.eq_zero_or_pos i with e | e
                · have : L1 = [] := List.eq_nil_of_length_eq_zero (by omega)
                  subst this
                  simp [opens] at hA3
                · exact e
              have hh1 : h1 < L1.length := by omega
              obtain ⟨v, L2, h2, hv, hvL, hvx, hh2, hL2, ho2⟩ := vic_some L1 h1 hh1 (by omega)
              have hout := opens_out L2 v hvx
              obtain ⟨x, hx⟩ : ∃ x, L1[h1]? = some x := ⟨_, List.getElem?_eq_getElem hh1⟩
              have hN : Aside ((L2.set v ⟨false, false, false⟩).length = i ∧ (h2 < i ∨ i = 0) ∧ opens (L2.set v ⟨false, false, false⟩) = g ∧ (q + 1 = 0 → L2.set v ⟨false, false, false⟩ = L)) :=
                ⟨by rw [List.length_set]; omega, by omega, by omega, by omega⟩
              have hwas : q = 0 → 0 < C → i = 1 → x.t = false := by
                intro e1 e2 e3
                have e4 := hA4 e1
                have e5 : h1 = 0 := by omega
                subst e4 e5
                exact HC1.out e3 e2 x hx
              have HX := Lib.hid hx
              have HV := Lib.hid hv
              have HVX := Lib.hid hvx
              have HH1 := Lib.hid hh1
              have HVL : Hid (v < L2.length) := Lib.hid (by omega)
              clear hA hA1 hA2 hA3 hA4 hx hv hvx hh1 hvL hL2 ho2 hout
              obtain ⟨xi, xt, xp⟩ := x
              go_wp2_with fail
              refine (hand_any _ c lb h1 L1 k4).mono ?_
              rintro e w' ⟨rfl, rfl⟩
              go_wp2_with fail
              refine (is_ok _ c lb h1 L1 h1 _ k4 HX.out).mono ?_
              rintro e w5 ⟨rfl, k5, ho5⟩
              have hb5 := ho5.below hb4 hsz4 hc hlb
              have hsz5 := hb5.size
              clear k4 hb4 hsz4 ho5
              go_wp2_with fail
              refine (victim_some _ c lb h1 h2 v L1 L2 k5 (Or.inl HH1.out) HV.out).mono ?_
              rintro e w6 ⟨rfl, k6, ho6⟩
              have hb6 := ho6.below hb5 hsz5 hc hlb
              have hsz6 := hb6.size
              clear k5 hb5 hsz5 ho6
              go_wp2_with fail
              refine (is_ok _ c lb h2 L2 v _ k6 HVX.out).mono ?_
              rintro e w7 ⟨rfl, k7, ho7⟩
              have hb7 := ho7.below hb6 hsz6 hc hlb
              have hsz7 := hb7.size
              clear k6 hb6 hsz6 ho7
              go_wp2_with fail
              refine (in_ok _ c lb h2 L2 v false k7 HVL.out).mono ?_
              rintro e w8 ⟨rfl, k8, ho8⟩
              have hb8 := ho8.below hb7 hsz7 hc hlb
              clear k7 hb7 hsz7 ho8
              have HWAS := Lib.hid hwas
              clear hwas
              by_cases e1 : q = 0
              · by_cases e2 : 0 < C
                · by_cases e3 : i = 1
                  · have e4 : xt = false := HWAS.out e1 e2 e3
                    subst e1 e3 e4
                    go_wp2
                    go_roundg g
                    case measure => omega
                    case rel => exact ⟨_, h2, _, by omega, by go_num, hN, k8, hb8⟩
                  · have e3' : ((i : Int) == 1) = false := by simp; omega
                    subst e1
                    cases xt
                    all_goals
                      go_wp2
                      go_roundg g
                      case measure => omega
                      case rel => exact ⟨_, h2, _, by omega, by go_num, hN, k8, hb8⟩
                · have e2' : ¬ ((0 : Int) < (C : Int)) := by omega
                  subst e1
                  go_wp2
                  go_roundg g
                  case measure => omega
                  case rel => exact ⟨_, h2, _, by omega, by go_num, hN, k8, hb8⟩
              · have e1' : ((q : Int) == 0) = false := by simp; omega
                clear e1
                go_wp2
                go_roundg g
                case measure => omega
                case rel => exact ⟨_, h2, _, by omega, by go_num, hN, k8, hb8⟩
end Go.Proofs.Ytpekigmkmeapaaa
