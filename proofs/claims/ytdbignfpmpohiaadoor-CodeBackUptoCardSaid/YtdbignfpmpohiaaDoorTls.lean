/-
  What one, two, and three bytes tell (plain).
-/
import Derived.Test.YtdbignfpmpohiaaDoorJmf
namespace Go.Proofs.YtdbignfpmpohiaaDoor
open Go.RowKit

/-- do bytes tell it? -/
def tellsM (bs : List Int) (o : O4) : Bool :=
  (atM bs 0).2 == 0 && ((atM bs 0).1.l == (bs.length : Int) && ((atM bs 0).1.k == o.k && ((atM bs 0).1.n == o.n && (atM bs 0).1.m == o.m)))

theorem ite_len {p : Prop} [Decidable p] (a b : O4 × Bool) (ha : a.1.l = 1) (hb : b.1.l = 1) : (if p then a else b).1.l = 1 := by split <;> assumption
theorem oneLen (c : Int) : (oneM c).1.l = 1 := by
  unfold oneM
  repeat (refine ite_len _ _ rfl ?_)
  rfl
theorem moreLen (c n m : Int) : (moreM c n m).l = if c = 132 ∨ c = 134 then 3 else 2 := by
  split
  · rename_i h; exact moreM_l3 _ _ _ h
  · rename_i h; exact moreM_l2 _ _ _ h

theorem atM_zero (bs : List Int) : atM bs 0 = atN bs 0 := rfl

theorem tells1 (c : Int) (o : O4) : tellsM [c] o = ((oneM c).2 && sameB (oneM c).1 o) := by
  have hl := oneLen c
  obtain ⟨⟨x, ok⟩, hr⟩ : ∃ r, r = oneM c := ⟨_, rfl⟩
  rw [← hr] at hl ⊢
  simp only at hl
  cases ok
  · have e : atM [c] 0 = (⟨0, 0, 0, 0⟩, 5) := by
      rw [atM_zero, atN, if_neg (by simp)]
      simp only [List.getD_cons_zero]
      rw [← hr, if_neg (by simp), if_pos (Or.inl (by simp))]
    rw [tellsM, e]; rfl
  · have e : atM [c] 0 = (x, 0) := by
      rw [atM_zero, atN, if_neg (by simp)]
      simp only [List.getD_cons_zero]
      rw [← hr, if_pos rfl]
    rw [tellsM, e]
    simp [hl, sameB]

theorem tells2 (c n : Int) (o : O4) : tellsM [c, n] o = (!((oneM c).2 || c == 132 || c == 134) && sameB (moreM c n 0) o) := by
  have hl := oneLen c
  have hm := moreLen c n 0
  obtain ⟨⟨x, ok⟩, hr⟩ : ∃ r, r = oneM c := ⟨_, rfl⟩
  rw [← hr] at hl ⊢
  simp only at hl
  cases ok
  · by_cases hc : c = 132 ∨ c = 134
    · have e : atM [c, n] 0 = (⟨0, 0, 0, 0⟩, 5) := by
        rw [atM_zero, atN, if_neg (by simp)]
        simp only [List.getD_cons_zero]
        rw [← hr, if_neg (by simp), if_pos (Or.inr ⟨hc, by simp⟩)]
      rw [tellsM, e]
      rcases hc with rfl | rfl <;> rfl
    · have e : atM [c, n] 0 = (moreM c n 0, 0) := by
        rw [atM_zero, atN, if_neg (by simp)]
        simp only [List.getD_cons_zero]
        rw [← hr, if_neg (by simp), if_neg (by intro h; rcases h with h | h <;> first | (simp at h; done) | exact hc h.1)]
        rfl
      rw [if_neg hc] at hm
      have h1 : (c == 132) = false := by simp; omega
      have h2 : (c == 134) = false := by simp; omega
      rw [tellsM, e, h1, h2]
      simp [hm, sameB]
  · have e : atM [c, n] 0 = (x, 0) := by
      rw [atM_zero, atN, if_neg (by simp)]
      simp only [List.getD_cons_zero]
      rw [← hr, if_pos rfl]
    rw [tellsM, e]
    simp [hl]

theorem tells3 (c n m : Int) (o : O4) (hc : c = 132 ∨ c = 134) : tellsM [c, n, m] o = sameB (moreM c n m) o := by
  have hm := moreLen c n m
  rw [if_pos hc] at hm
  have hone : (oneM c).2 = false := by rcases hc with rfl | rfl <;> decide
  have e : atM [c, n, m] 0 = (moreM c n m, 0) := by
    rw [atM_zero, atN, if_neg (by simp)]
    simp only [List.getD_cons_zero]
    rw [hone, if_neg (by simp), if_neg (by intro h; rcases h with h | h <;> simp at h)]
    rfl
  rw [tellsM, e]
  simp [hm, sameB]

/-- by three bytes: g of the two are left -/
def find3g (o : O4) : Nat → Option (List Int)
  | 0 => none
  | g + 1 => if (17 + (1 - (g : Int)) == o.k && (decide (0 ≤ o.n) && (decide (o.n < 256) && (decide (0 ≤ o.m) && decide (o.m < 256))))) = true then some [132 + 2 * (1 - (g : Int)), o.m, o.n] else find3g o g
theorem find3g_eq (o : O4) : find3g o 2 = find3 o := by
  obtain ⟨k, n, m, l⟩ := o
  unfold find3
  by_cases hr : 0 ≤ n ∧ n < 256 ∧ 0 ≤ m ∧ m < 256
  · obtain ⟨h1, h2, h3, h4⟩ := hr
    by_cases hk : k = 17
    · subst hk
      rw [if_pos ⟨Or.inl rfl, h1, h2, h3, h4⟩, find3g]
      simp [h1, h2, h3, h4]
    by_cases hk8 : k = 18
    · subst hk8
      rw [if_pos ⟨Or.inr rfl, h1, h2, h3, h4⟩, find3g, find3g]
      simp [h1, h2, h3, h4]
    · rw [if_neg (by intro h; simp only at h; omega), find3g, find3g, find3g]
      rw [if_neg (by simp; omega), if_neg (by simp; omega)]
  · rw [if_neg (by intro h; exact hr h.2), find3g, find3g, find3g]
    rw [if_neg (by simp; omega), if_neg (by simp; omega)]
theorem more3 (g : Nat) (hg : g = 0 ∨ g = 1) (o : O4) : sameB (moreM (132 + 2 * (1 - (g : Int))) o.m o.n) o = (17 + (1 - (g : Int)) == o.k) := by
  rcases hg with rfl | rfl <;> simp [moreM, sameB]

end Go.Proofs.YtdbignfpmpohiaaDoor
