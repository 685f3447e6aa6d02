/-
  ClockFair returns true for every input: a victim is in, and not pinned; there is none, just if all that are in are pinned; taken out each time, all that may go do, each once. Conditions: none.
-/
import Derived.Test.YtpekigmkmeapaaaRows
import Derived.WalkKit
import Derived.ProofKit
import Derived.OpenShut
import Derived.ChangeOld
import Derived.Below
import Derived.Test.YtpekigmkmeapaaaFld
import Derived.Test.YtpekigmkmeapaaaFair
namespace Go.Proofs.Ytpekigmkmeapaaa.clockFair
open Go.ChangeShapes Go.WideShapes Go.ChangeAt Go.RowKit

theorem own : ownKnob Try.prog.godebug = none := by kernel_rfl
theorem laidOut : laidOutB Try.prog = true := by kernel_rfl

theorem add_block (a : Addr) (n : Nat) : (a.add n).block = a.block := by unfold Addr.add; split <;> rfl

/-- the argument, opened -/
theorem dos_of {H : Type} {enc : TypeId × Value → H} {W : World} {fuel : Nat} {A : Option Addr} {len cap : Nat} {x : DataW H × List MemPlace}
    (h : DataW.trod enc Try.prog W 0 (fun _ => true) true fuel 42 (Value.cells (.slice A len cap)).toList = some x) : len ≤ 9223372036854775807 ∧ Dos W A len := by
  have h' : DataW.trod enc Try.prog W 0 (fun _ => true) true fuel 42 [.slice A len cap] = some x := by simpa [Value.cells] using h
  rcases open_slice_fields Try.underlying42 Try.underlying46 (by kernel_rfl) (by kernel_rfl) h' with ⟨hcs, _⟩ | ⟨a, l, c, m, D, Pl, hcs, _, hl, hm, hmm, _, hf⟩
  · simp at hcs
    obtain ⟨rfl, rfl, rfl⟩ := hcs
    exact ⟨by omega, fun j hj => absurd hj (by omega)⟩
  · simp at hcs
    obtain ⟨rfl, rfl, rfl⟩ := hcs
    unfold maxLen at hm
    refine ⟨by omega, fun j hj => ?_⟩
    simp at hmm
    obtain ⟨ys, n, _, _, _, hfj⟩ := hf j (by omega)
    obtain ⟨v0, y0, hc0, hy0, ht0⟩ := hfj 0 _ rfl
    obtain ⟨v1, y1, hc1, hy1, ht1⟩ := hfj 1 _ rfl
    obtain ⟨kd, e0, _, _⟩ := DataW.trod_int Try.underlying3 ht0
    obtain ⟨i, e1, _, _⟩ := DataW.trod_int Try.underlying3 ht1
    simp at e0 e1
    subst e0 e1
    have hsp : a.spot = none := by
      obtain ⟨_, _, _, _, _, hf0⟩ := hf 0 (by omega)
      obtain ⟨_, _, hc00, _, _⟩ := hf0 0 _ rfl
      have := cell_spot hc00
      simpa [Addr.add] using this
    obtain ⟨b, off, sp⟩ := a
    simp only at hsp
    subst hsp
    have hadd : ∀ q, (⟨b, off, none⟩ : Addr).add q = ⟨b, off + q, none⟩ := by intro q; unfold Addr.add; split <;> simp_all
    rw [hadd] at hc0 hc1
    simp only [List.size_toArray, List.length_cons, List.length_nil, Nat.zero_add] at hc0 hc1
    exact ⟨b, off, kd, i, rfl, World.block_lt_of_cell? W _ hc0, by simpa using hc0, by simpa [Nat.add_assoc] using hc1⟩

theorem walk (a0 : Int) (A : Option Addr) (len cap : Nat) (w : World) (w0 : (Lit.int .u8 a0).wf = true) (hl : len ≤ 9223372036854775807) (hD : Dos w A len) :
    Calls Try.prog 6 #[.int .u8 a0, .slice A len cap] w fun e w' => e = .returned (.bool true) ∧ Below w.heap.size w w' := by
  have b0 := u8_bd w0
  by_cases h : 200 < len
  · exact fair_long a0 A len cap w hl h
  · obtain ⟨n, rfl⟩ : ∃ n : Nat, a0 = n := ⟨a0.toNat, by omega⟩
    exact fair_walk n A len cap w (by omega) (by omega) hD

set_option maxRecDepth 100000 in
theorem lifted (os : Os) (started : os.Started) (H : Type) (enc : TypeId × Value → H) :
    ReturnsInHanded {} Try.checked os 6 .any (Rows.clockFairSpec.pre6 enc Try.prog Try.f6 Rows.clockFairRow.domain false) (Rows.clockFairSpec.post enc Try.prog Try.f6 false true false false) := by
  refine returnsInHanded_of_change (C := Try.checked) own started (by kernel_rfl) Try.func6
    (ChangeSpec.witness6 (enc := enc) (C := Try.checked) false ⟨#[], #[.int .u8 0, .slice none 0 0], []⟩ 8 (by kernel_rfl) (by kernel_rfl) (by kernel_rfl) (by kernel_rfl)) ?_
  intro W base args ds gs before hval0 hW hcnd _
  have hval : ∀ (j : Nat) t v, Try.f6.params[j]? = some t → args[j]? = some v → Value.okWide Try.prog W .any base t v := hval0
  have hW' := hW
  obtain ⟨p, q, hA0, hV, rfl, hfz, hnd⟩ := hW
  have hA : DataW.TrodAll enc Try.prog W 0 (fun _ => true) true Try.f6.params.toList args.toList ds p := hA0
  rw [Try.params6] at hA hval
  obtain ⟨v0, vs0, d0, ds0, p0, q0, hargs, rfl, rfl, h0, r0⟩ := trodAll_cons hA
  obtain ⟨v1, vs1, d1, ds1, p1, q1, rfl, rfl, rfl, h1, r1⟩ := trodAll_cons r0
  obtain ⟨rfl, rfl, rfl⟩ := trodAll_nil r1
  obtain rfl : args = #[v0, v1] := by cases args; simp_all
  obtain ⟨rfl, rfl⟩ := trodVars_none hV
  obtain ⟨a0, rfl, rfl, rfl, w0⟩ := open_int Try.underlying5 (hval 0 5 v0 rfl rfl) h0
  obtain ⟨a1, len1, cap1, rfl⟩ := okWide_slice Try.underlying42 (hval 1 42 v1 rfl rfl)
  have k1 := h1
  have lt1 : ∀ x ∈ p1, x.block < W.heap.size := by obtain ⟨m, hm⟩ := k1; exact DataW.trod_lt m _ _ _ hm
  obtain ⟨hl1, hD1⟩ : len1 ≤ 9223372036854775807 ∧ Dos W a1 len1 := by
    obtain ⟨fuel, hf⟩ := h1
    exact dos_of hf
  clear hA0 hval0
  refine (walk a0 a1 len1 cap1 W w0 hl1 hD1).mono fun e W' ⟨he, bel⟩ => ?_
  subst he
  exact ⟨_, rfl, _, _, _, [], _, [], hW', trodAll_mk1 (shut_bool Try.underlying4 _), (trodAll_cons_mk (shut_int Try.underlying5 w0) (trodAll_cons_mk (Below.trod laidOut (by kernel_rfl) (of_decide_eq_true (by kernel_rfl)) k1 bel lt1) trodAll_mk0)), rfl, bel.frame _, fun h => by cases h⟩

theorem over : Rows.clockFairRow.holds Try.pinned (OpenSpec.ofChange Rows.clockFairSpec) :=
  OpenClaim.holds_of_wide 6 Try.f6 rfl rfl rfl rfl rfl rfl rfl ⟨rfl, rfl, rfl, rfl, rfl⟩ rfl rfl rfl rfl rfl (by kernel_rfl) Try.func6 (by kernel_rfl)
    (of_decide_eq_true (by kernel_rfl)) (by unfold Func.isWrapper; first | (rw [if_pos (by decide +kernel)]; kernel_rfl) | (rw [if_neg (by decide +kernel)]; exact ⟨rfl, rfl⟩))
    (fun os started H enc _ => lifted os started H enc)

theorem proved : Rows.ClockFairSaid := over
#print axioms proved
end Go.Proofs.Ytpekigmkmeapaaa.clockFair
