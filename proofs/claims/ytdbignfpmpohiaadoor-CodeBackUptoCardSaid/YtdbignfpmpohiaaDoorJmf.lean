/-
  The plain law of what is told one behind the other: lengths, numbers; whether jumps lead where something begins.
-/
import Derived.Test.YtdbignfpmpohiaaDoorByt
namespace Go.Proofs.YtdbignfpmpohiaaDoor
open Go.RowKit

theorem oneM_n (c : Int) (h : 0 ≤ c ∧ c ≤ 255) : -2000 ≤ (oneM c).1.n ∧ (oneM c).1.n ≤ 2000 := by
  have key : ∀ n : Nat, n < 256 → -2000 ≤ (oneM n).1.n ∧ (oneM n).1.n ≤ 2000 := by decide +kernel
  have := key c.toNat (by omega)
  rwa [show ((c.toNat : Nat) : Int) = c from by omega] at this
theorem moreM_n (c n m : Int) (hc : longC c) (hn : 0 ≤ n ∧ n ≤ 255) (hm : 0 ≤ m ∧ m ≤ 255) : -2000 ≤ (moreM c n m).n ∧ (moreM c n m).n ≤ 2000 := by
  unfold longC at hc
  unfold moreM
  repeat' split
  all_goals (simp only; omega)

theorem getD_val (bs : List Int) (hb : ∀ v ∈ bs, 0 ≤ v ∧ v ≤ 255) (i : Nat) : 0 ≤ bs.getD i 0 ∧ bs.getD i 0 ≤ 255 := by
  rw [List.getD_eq_getElem?_getD]
  cases h : bs[i]? with
  | none => simp
  | some v => exact hb v (List.mem_of_getElem? h)

theorem atN_n (bs : List Int) (hb : ∀ v ∈ bs, 0 ≤ v ∧ v ≤ 255) (i : Nat) : -2000 ≤ (atN bs i).1.n ∧ (atN bs i).1.n ≤ 2000 := by
  unfold atN
  by_cases h1 : bs.length ≤ i
  · rw [if_pos h1]; simp
  rw [if_neg h1]
  by_cases h2 : (oneM (bs.getD i 0)).2 = true
  · rw [if_pos h2]; exact oneM_n _ (getD_val bs hb i)
  rw [if_neg h2]
  by_cases h3 : bs.length < i + 2 ∨ ((bs.getD i 0 = 132 ∨ bs.getD i 0 = 134) ∧ bs.length < i + 3)
  · rw [if_pos h3]; simp
  rw [if_neg h3]
  exact moreM_n _ _ _ ((oneM_long _ (getD_val bs hb i)).1 (by simpa using h2)) (getD_val bs hb _) (getD_val bs hb _)

def lens (l : List O4) : Nat := (l.map fun o => o.l.toNat).sum
def fine (o : O4) : Prop := 1 ≤ o.l ∧ o.l ≤ 3 ∧ -2000 ≤ o.n ∧ o.n ≤ 2000

theorem allF_facts (bs : List Int) (hb : ∀ v ∈ bs, 0 ≤ v ∧ v ≤ 255) : ∀ (f j : Nat), (allF f bs j).2 = 0 → bs.length ≤ j + f → j ≤ bs.length →
    (∀ o ∈ (allF f bs j).1, fine o) ∧ lens (allF f bs j).1 + j = bs.length := by
  intro f
  induction f with
  | zero => intro j _ h1 h2; exact ⟨by simp [allF], by simp [allF, lens]; omega⟩
  | succ f ih =>
    intro j he h1 h2
    by_cases hj : bs.length ≤ j
    · rw [allF, if_pos hj]; exact ⟨by simp, by simp [lens]; omega⟩
    · rw [allF, if_neg hj] at he ⊢
      by_cases h3 : (atN bs j).2 ≠ 0
      · rw [if_pos h3] at he; exact absurd he h3
      · rw [if_neg h3] at he ⊢
        have hl := atN_len bs hb j (by simpa using h3)
        by_cases h4 : (allF f bs (j + (atN bs j).1.l.toNat)).2 ≠ 0
        · rw [if_pos h4] at he; exact absurd he h4
        · rw [if_neg h4]
          have := ih (j + (atN bs j).1.l.toNat) (by simpa using h4) (by omega) (by omega)
          have hn := atN_n bs hb j
          refine ⟨?_, ?_⟩
          · intro o ho
            rcases List.mem_cons.1 ho with rfl | ho
            · exact ⟨hl.1, hl.2.1, hn.1, hn.2⟩
            · exact this.1 o ho
          · have h5 := this.2
            simp only [lens, List.map_cons, List.sum_cons] at *
            omega

theorem allM_facts (bs : List Int) (hb : ∀ v ∈ bs, 0 ≤ v ∧ v ≤ 255) (he : (allM bs).2 = 0) : (∀ o ∈ (allM bs).1, fine o) ∧ lens (allM bs).1 = bs.length := by
  have := allF_facts bs hb bs.length 0 he (by omega) (by omega)
  exact ⟨this.1, by have := this.2; unfold allM; omega⟩

theorem allF_err (bs : List Int) : ∀ (f j : Nat), (allF f bs j).2 ≠ 0 → (allF f bs j).1 = [] := by
  intro f j h
  cases f with
  | zero => simp [allF] at h
  | succ f =>
    rw [allF] at h ⊢
    split at h
    · simp at h
    · rename_i h1
      rw [if_neg h1]
      split at h
      · rename_i h3; rw [if_pos h3]
      · rename_i h3
        rw [if_neg h3]
        split at h
        · rename_i h4; rw [if_pos h4]
        · simp at h

/-- where the i-th begins -/
def posN (l : List O4) (i : Nat) : Nat := lens (l.take i)
theorem posN_zero (l : List O4) : posN l 0 = 0 := rfl
theorem posN_next (l : List O4) (i : Nat) (o : O4) (h : l[i]? = some o) : posN l (i + 1) = posN l i + o.l.toNat := by
  have hi := (List.getElem?_eq_some_iff.1 h).1
  rw [posN, List.take_succ_eq_append_getElem hi, posN]
  rw [List.getElem?_eq_getElem hi] at h
  injection h with h
  simp [lens, h]
theorem lens_append (a b : List O4) : lens (a ++ b) = lens a + lens b := by simp [lens]
theorem posN_le (l : List O4) (i : Nat) : posN l i ≤ lens l := by
  have h : lens l = lens (l.take i ++ l.drop i) := congrArg lens (List.take_append_drop i l).symm
  rw [lens_append] at h
  rw [posN]; omega
theorem posN_all (l : List O4) (i : Nat) (h : l.length ≤ i) : posN l i = lens l := by rw [posN, List.take_of_length_le h]

/-- does one of the first j begin there? -/
def begN (l : List O4) (j x : Nat) : Bool := (List.range j).any fun i => posN l i == x
theorem begN_next (l : List O4) (j x : Nat) : begN l (j + 1) x = (begN l j x || posN l j == x) := by simp [begN, List.range_succ]
/-- does it lead where something begins? -/
def okAt (l : List O4) (len i : Nat) (o : O4) : Bool :=
  !(o.k == 0) && (!(o.k == 22 || (o.k == 23 || o.k == 24)) ||
    (decide (0 ≤ (posN l (i + 1) : Int) + o.n) && (decide ((posN l (i + 1) : Int) + o.n ≤ len) && (begN l l.length ((posN l (i + 1) : Int) + o.n).toNat || ((posN l (i + 1) : Int) + o.n).toNat == len))))
/-- the last g of them -/
def okFrom (l : List O4) (len : Nat) : Nat → Bool
  | 0 => true
  | g + 1 => match l[l.length - (g + 1)]? with
    | none => true
    | some o => okAt l len (l.length - (g + 1)) o && okFrom l len g
def jumpsM (bs : List Int) : Bool := (allM bs).2 == 0 && okFrom (allM bs).1 bs.length (allM bs).1.length
end Go.Proofs.YtdbignfpmpohiaaDoor
