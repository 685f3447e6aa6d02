/-
  The contract of (*Clock).Victim: what it computes is 'vic'.
-/
import Derived.Test.YtpekigmkmeapaaaCon
import Derived.Deep.LoopGhost
namespace Go.Proofs.Ytpekigmkmeapaaa
open Go.RowKit

/-- f places are looked at, from the hand h on -/
def vic : Nat → List Pl → Nat → List Pl × Nat × Option Nat
  | 0, L, h => (L, h, none)
  | f + 1, L, h => match L[h]? with
    | none => (L, h, none)
    | some x =>
      if (x.i && !x.p) = true then
        if x.t = true then vic f (L.set h { x with t := false }) ((h + 1) % L.length)
        else (L, (h + 1) % L.length, some h)
      else vic f L ((h + 1) % L.length)

def vicV : Option Nat → Value
  | none => .tuple #[.int .i64 0, .bool false]
  | some i => .tuple #[.int .i64 i, .bool true]

theorem vic_length (f : Nat) (L : List Pl) (h : Nat) : (vic f L h).1.length = L.length := by
  induction f generalizing L h with
  | zero => rfl
  | succ f ih =>
    unfold vic
    split
    · rfl
    · split
      · split
        · rw [ih]; simp
        · rfl
      · rw [ih]

theorem Clk.handI {w : World} {c lb h : Nat} {L : List Pl} (k : Clk w c lb L h) {v : Int} {j : Nat} (hv : v = j) : Clk (w.setCell ⟨c, 1, none⟩ (.int .i64 v)) c lb L j := by
  subst hv; exact k.hand j

theorem open_is (w : World) (c lb h : Nat) (L : List Pl) (i : Nat) (x : Pl) (b : Bool) (k : Clk w c lb L h) (hx : L[i]? = some x) (hb : (x.i && !x.p) = b) :
    Calls Try.prog 18 #[.pointer (some ⟨lb, i * 3, none⟩)] w fun e w' => e = .returned (.bool b) ∧ w = w' := by
  subst hb; exact open_any w c lb h L i x k hx

/-- what Victim leaves -/
def VicPost (c lb : Nat) (r : List Pl × Nat × Option Nat) (w : World) (e : Ending) (w' : World) : Prop := Ret (vicV r.2.2) c lb r.1 r.2.1 w e w'

set_option maxHeartbeats 1000000 in
theorem victim_any (w : World) (c lb h : Nat) (L : List Pl) (k : Clk w c lb L h) (hh : h < L.length ∨ L = []) :
    Calls Try.prog 11 #[.pointer (some ⟨c, 0, none⟩)] w (VicPost c lb (vic (2 * L.length) L h) w) := by
  have hs := k.size
  have h0 := k.c0
  obtain ⟨n, hn⟩ : ∃ n, n = L.length := ⟨_, rfl⟩
  rw [← hn] at h0 hs
  have HN := Lib.hid hn
  obtain ⟨r, hr⟩ : ∃ r, r = vic (2 * L.length) L h := ⟨_, rfl⟩
  rw [← hr]
  have hh' : h < n ∨ n = 0 := by
    rcases hh with hh | hh
    · exact Or.inl (by omega)
    · exact Or.inr (by rw [hn, hh]; rfl)
  rw [← hn] at hr
  have HH := Lib.hid hh'
  have HR := Lib.hid hr
  clear hn hr hh hh'
  go_enter Try.func11, Try.ntmps11
  go_wp2
  go_step3
  go_wp2
  go_step3
  go_wp2
  go_loopg [4, 15] (2 * n) (fun g s4 s15 wr => ∃ (j h1 : Nat) (L1 : List Pl), j + g = 2 * n ∧ s15 = .int .i64 j ∧ s4 = .int .i64 (-1) ∧ Clk wr c lb L1 h1 ∧ (h1 < n ∨ n = 0) ∧ L1.length = n ∧ Only c lb w wr ∧ Aside (r = vic g L1 h1))
  case atStart => exact ⟨0, h, L, by omega, rfl, rfl, k, HH.out, HN.out.symm, Only.refl c lb w, HR.out⟩
  case round =>
    obtain ⟨j, h1, L1, hj, rfl, rfl, k1, hh1, hl1, ho, hr⟩ := hrel
    cases gk with
    | zero =>
      have hjn : ¬ ((j : Int) < 2 * (n : Int)) := by omega
      clear h0
      go_wp2
      go_ret2
      rw [hr.out]
      exact ⟨rfl, k1, ho⟩
    | succ g =>
      have hjn : ((j : Int) < 2 * (n : Int)) := by omega
      have hlt : h1 < n := by omega
      have hlt1 : h1 < L1.length := by omega
      obtain ⟨x, hxx⟩ : ∃ x, L1[h1]? = some x := ⟨_, List.getElem?_eq_getElem hlt1⟩
      have d0 := k1.c0
      rw [hl1] at d0
      have d1 := k1.c1
      have d2 := k1.cf 1
      have k2 := k1.handI (v := ((h1 : Int) + 1) % (n : Int)) (j := (h1 + 1) % n) (by simp)
      have b2 := k2.bt hxx
      have f2 := k2.bf (h1 * 3 + 1)
      have hmod : (h1 + 1) % n < n := Nat.mod_lt _ (by omega)
      have ho2 := ho.setC 1 (.int .i64 (((h1 : Int) + 1) % (n : Int)))
      have hv : vic (g + 1) L1 h1 = if (x.i && !x.p) = true then if x.t = true then vic g (L1.set h1 { x with t := false }) ((h1 + 1) % n) else (L1, (h1 + 1) % n, some h1) else vic g L1 ((h1 + 1) % n) := by
        rw [vic, hxx, hl1]
      have HX := Lib.hid hxx
      have HL1 := Lib.hid hl1
      have HV := Lib.hid (hr.out.trans hv)
      clear h0 hxx hl1 hlt1 hv hr
      cases hb : (x.i && !x.p) with
      | false =>
        have HB := Lib.hid hb
        clear hb
        go_wp2_with (go_at_call 18; refine (open_is _ _ _ _ _ _ _ _ k2 HX.out HB.out).mono ?_; rintro e w' ⟨rfl, rfl⟩)
        go_roundg g
        case measure => omega
        case rel =>
          refine ⟨j + 1, (h1 + 1) % n, L1, by omega, by go_num, rfl, k2, Or.inl hmod, HL1.out, ho2, ?_⟩
          have := HV.out
          rw [HB.out] at this
          exact this
      | true =>
        have HB := Lib.hid hb
        clear hb
        cases ht : x.t with
        | false =>
          rw [ht] at b2
          have HT := Lib.hid ht
          clear ht
          go_wp2_with (go_at_call 18; refine (open_is _ _ _ _ _ _ _ _ k2 HX.out HB.out).mono ?_; rintro e w' ⟨rfl, rfl⟩)
          rw [Exit.noGoto_ret]
          go_ret2
          have := HV.out
          rw [HB.out, HT.out] at this
          rw [this]
          exact ⟨rfl, k2, ho2⟩
        | true =>
          rw [ht] at b2
          have HT := Lib.hid ht
          clear ht
          have k3 := k2.setT HX.out false
          go_wp2_with (go_at_call 18; refine (open_is _ _ _ _ _ _ _ _ k2 HX.out HB.out).mono ?_; rintro e w' ⟨rfl, rfl⟩)
          go_roundg g
          case measure => omega
          case rel =>
            refine ⟨j + 1, (h1 + 1) % n, L1.set h1 { x with t := false }, by omega, by go_num, rfl, k3, Or.inl hmod, by rw [List.length_set]; exact HL1.out, ho2.setB _ _, ?_⟩
            have := HV.out
            rw [HB.out, HT.out] at this
            exact this
end Go.Proofs.Ytpekigmkmeapaaa
