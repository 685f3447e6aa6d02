/-
  The contracts of websterref00.Same (of equal bytes) and of websterref12.Same (of equal things to do).
-/
import Derived.Test.YtdbignfpmpohiaaDoorRal
import Derived.Laws.IdiomStrings
namespace Go.Proofs.YtdbignfpmpohiaaDoor
open Go.RowKit

def u8s (bs : List Int) : List UInt8 := bs.map fun v => UInt8.ofNat v.toNat
theorem u8s_get (bs : List Int) (j : Nat) (h : j < (u8s bs).length) (hv : ∀ v ∈ bs, 0 ≤ v ∧ v ≤ 255) : ((u8s bs)[j].toNat : Int) = bs.getD j 0 := by
  have hj : j < bs.length := by simpa [u8s] using h
  have hm := hv _ (List.getElem_mem hj)
  have e : bs.getD j 0 = bs[j] := by rw [List.getD_eq_getElem?_getD, List.getElem?_eq_getElem hj]; rfl
  rw [e]
  simp only [u8s, List.getElem_map]
  rw [UInt8.toNat_ofNat']
  omega

theorem Byts.vals {w : World} {A : Option Addr} {bs : List Int} (h : Byts w A bs) : ∀ v ∈ bs, 0 ≤ v ∧ v ≤ 255 := by
  intro v hv
  obtain ⟨j, hj⟩ := List.getElem?_of_mem hv
  obtain ⟨h1, h2, _⟩ := h j v hj
  exact ⟨h1, h2⟩

theorem conv_bytes (w : World) (A : Option Addr) (bs : List Int) (cap : Nat) (hB : Byts w A bs) :
    (convert 22 9 (.slice A bs.length cap)).run Tryd.prog w = .ok (.string ⟨(u8s bs).toArray⟩) w := by
  have hl : bs.length = (u8s bs).length := by simp [u8s]
  cases A with
  | none =>
    have : bs = [] := by
      cases bs with
      | nil => rfl
      | cons x l => obtain ⟨_, _, b, off, hA, _⟩ := hB 0 x rfl; cases hA
    subst this
    show (convert 22 9 (.slice none 0 cap)).run Tryd.prog w = _
    rw [run_convert_bytes_string w 22 9 5 none 0 cap Tryd.underlying22 Tryd.underlying5 Tryd.underlying9]
    rfl
  | some a =>
    rw [hl]
    refine run_convert_bytes_back w 22 9 5 a cap (u8s bs) Tryd.underlying22 Tryd.underlying5 Tryd.underlying9 ?_
    intro j hj
    have hjb : j < bs.length := by omega
    rw [u8s_get bs j hj hB.vals]
    obtain ⟨h1, h2, b, off, hA, hlt, hc⟩ := hB j bs[j] (List.getElem?_eq_getElem hjb)
    obtain ⟨rfl⟩ : a = ⟨b, off, none⟩ := by simpa using hA
    have hadd : (⟨b, off, none⟩ : Addr).add j = ⟨b, off + j, none⟩ := by unfold Addr.add; split <;> simp_all
    have e : bs.getD j 0 = bs[j] := by rw [List.getD_eq_getElem?_getD, List.getElem?_eq_getElem hjb]; rfl
    rw [hadd, e]
    exact hc

set_option maxHeartbeats 1000000 in
theorem same_bytes (w : World) (A A' : Option Addr) (bs : List Int) (cap cap' : Nat) (hB : Byts w A bs) (hB' : Byts w A' bs) :
    Calls Tryd.prog 21 #[.slice A bs.length cap, .slice A' bs.length cap'] w fun e w' => e = .returned (.bool true) ∧ w = w' := by
  have c1 := conv_bytes w A bs cap hB
  have c2 := conv_bytes w A' bs cap' hB'
  obtain ⟨s, hs⟩ : ∃ s : ByteArray, s = ⟨(u8s bs).toArray⟩ := ⟨_, rfl⟩
  obtain ⟨n, hn⟩ : ∃ n, n = bs.length := ⟨_, rfl⟩
  rw [← hs, ← hn] at c1 c2
  rw [← hn]
  clear hs hn
  go_enter Tryd.func21, Tryd.ntmps21
  go_wp2
  go_ret
  exact ⟨by simp, rfl⟩
end Go.Proofs.YtdbignfpmpohiaaDoor
