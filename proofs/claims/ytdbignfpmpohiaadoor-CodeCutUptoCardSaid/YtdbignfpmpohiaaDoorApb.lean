/-
  Appending bytes that came in to bytes of the call's own; a part of things to do can be read.
-/
import Derived.Test.YtdbignfpmpohiaaDoorKno
import Derived.Test.YtdbignfpmpohiaaDoorPln
import Derived.Laws.AppendOwnNone
namespace Go.Proofs.YtdbignfpmpohiaaDoor
open Go.RowKit

theorem Byts.row {w : World} {a : Addr} {bs : List Int} (h : Byts w (some a) bs) : ∀ j u, (bs.map (Value.int .u8))[j]? = some u → w.cell? (a.add j) = some u := by
  intro j u hu
  rw [List.getElem?_map] at hu
  cases hb : bs[j]? with
  | none => rw [hb] at hu; cases hu
  | some x =>
    rw [hb] at hu
    simp at hu
    obtain ⟨_, _, b, off, hA, _, hc⟩ := h j x hb
    obtain ⟨rfl⟩ : a = ⟨b, off, none⟩ := by simpa using hA
    have hadd : (⟨b, off, none⟩ : Addr).add j = ⟨b, off + j, none⟩ := by unfold Addr.add; split <;> simp_all
    rw [hadd, hc, ← hu]

theorem append_bytes {w : World} {ops : Array Oper} {rest : List Oper} {o : Oper} {a : Act} {Q : Exit → Act → World → Prop} (hgd : o.guard = none) (s x : Operand)
    (ho : o.op = .call { callee := .builtin .append, args := #[s, x], argTypes := #[22, 22] })
    (base : Nat) (v : Value) (acc : List Int) (hs : a.eval s = v) (hown : OwnsB w base v acc) (A : Option Addr) (bs : List Int) (n cap : Nat) (hn : n = bs.length) (hx : a.eval x = .slice A n cap) (hB : Byts w A bs) (hnone : A = none → cap = 0)
    (hbig : acc.length + n ≤ 8388608) (hbase : base ≤ w.heap.size)
    (h : ∀ v' w', OwnsB w' base v' (acc ++ bs) → w.grownBy w' v.ownBlock → wpList Tryd.prog ops Q rest (a.put o.dst v') w') : wpList Tryd.prog ops Q (o :: rest) a w := by
  obtain ⟨i0, hi, hz0, hz1, hz2⟩ := info_parts Tryd.info5
  subst hn
  cases A with
  | none =>
    obtain rfl := hnone rfl
    have hb : bs = [] := by
      cases bs with
      | nil => rfl
      | cons x l => obtain ⟨_, _, b, off, hA, _⟩ := hB 0 x rfl; cases hA
    subst hb
    refine wpList_append_own_none hgd s x 22 ho base 5 i0 1 Tryd.underlying22 hi v _ _ hs hown hx ?_
    have := h v w (by rw [List.append_nil]; exact hown) ⟨rfl, rfl, rfl, Nat.le_refl _, fun i _ _ => rfl⟩
    exact this
  | some ad =>
    refine wpList_append_own _ hgd s x 22 ho base 5 i0 (.int .u8 0) 1 1 Tryd.underlying22 hi hz0 hz1 hz2 rfl (by decide) v _ _ hs hown ad bs.length cap (bs.map (Value.int .u8)) hx (by simp) hB.row ?_ (by unfold maxLen; omega) (by omega) hbase ?_
    · intro u hu
      obtain ⟨x, _, rfl⟩ := List.mem_map.1 hu
      rfl
    · intro v' w' h1 h2 _
      refine h v' w' ?_ h2
      unfold OwnsB
      rw [List.length_append, List.map_append]
      exact h1

theorem OpsR.left {w : World} {A : Option Addr} {l m : List O4} (h : OpsR w A (l ++ m)) : OpsR w A l := by
  intro j o ho
  exact h j o (by rw [List.getElem?_append_left (List.getElem?_eq_some_iff.1 ho).1]; exact ho)
theorem OpsR.right {w : World} {b off : Nat} {l m : List O4} (h : OpsR w (some ⟨b, off, none⟩) (l ++ m)) : OpsR w (some ⟨b, off + l.length * 4, none⟩) m := by
  intro j o ho
  obtain ⟨b', off', hA, hb, c0, c1, c2, c3⟩ := h (l.length + j) o (by rw [List.getElem?_append_right (by omega)]; simpa using ho)
  obtain ⟨rfl, rfl⟩ : b = b' ∧ off = off' := by simpa using hA
  have e : off + (l.length + j) * 4 = off + l.length * 4 + j * 4 := by omega
  rw [e] at c0 c1 c2 c3
  exact ⟨b, off + l.length * 4, rfl, hb, c0, c1, c2, c3⟩
/-- what is owned, by its block -/
theorem Owns.cases {w : World} {B : Nat} {v : Value} {l : List O4} (h : Owns w B v l) : (v = .slice none 0 0 ∧ l = []) ∨ ∃ g cap, v = .slice (some ⟨g, 0, none⟩) l.length cap ∧ l.length ≤ cap ∧ cap ≤ 9223372036854775807 ∧ OpsR w (some ⟨g, 0, none⟩) l := by
  have hr := h.reads
  rcases h.2 with ⟨rfl, h0⟩ | ⟨g, cap, cur, rfl, hg, hh, h1, h2, h3, h4⟩
  · exact Or.inl ⟨rfl, List.eq_nil_of_length_eq_zero h0⟩
  · obtain ⟨A, c, he, k1, k2, k3⟩ := hr
    simp at he
    obtain ⟨rfl, rfl⟩ := he
    exact Or.inr ⟨g, cap, rfl, k1, k2, k3⟩
theorem opsR_nil (w : World) (A : Option Addr) : OpsR w A [] := by intro j o ho; simp at ho
end Go.Proofs.YtdbignfpmpohiaaDoor
