/-
  The plain law: what is found tells what was asked; what is told is found; what is told behind other bytes is the same.
-/
import Derived.Test.YtdbignfpmpohiaaDoorTls
namespace Go.Proofs.YtdbignfpmpohiaaDoor
open Go.RowKit

theorem tells_at (bs : List Int) (o : O4) (h : tellsM bs o = true) : atM bs 0 = (⟨o.k, o.n, o.m, bs.length⟩, 0) := by
  unfold tellsM at h
  obtain ⟨⟨⟨k, n, m, l⟩, e⟩, hr⟩ : ∃ r, r = atM bs 0 := ⟨_, rfl⟩
  rw [← hr] at h ⊢
  simp at h
  obtain ⟨h1, h2, h3, h4, h5⟩ := h
  rw [h1, h2, h3, h4, h5]

theorem find1_some (o : O4) : ∀ (g : Nat) (c : Int), g ≤ 256 → find1 o g = some c → 0 ≤ c ∧ c ≤ 255 ∧ tellsM [c] o = true := by
  intro g
  induction g with
  | zero => intro c _ h; simp [find1] at h
  | succ g ih =>
    intro c hg h
    rw [find1] at h
    split at h
    · rename_i h1
      injection h with h
      subst h
      exact ⟨by omega, by omega, by rw [tells1, h1]⟩
    · exact ih c (by omega) h
theorem find2n_some (o : O4) (c : Int) : ∀ (g : Nat) (n : Int), g ≤ 256 → find2n o c g = some n → 0 ≤ n ∧ n ≤ 255 ∧ sameB (moreM c n 0) o = true := by
  intro g
  induction g with
  | zero => intro n _ h; simp [find2n] at h
  | succ g ih =>
    intro n hg h
    rw [find2n] at h
    split at h
    · rename_i h1
      injection h with h
      subst h
      exact ⟨by omega, by omega, h1⟩
    · exact ih n (by omega) h
theorem find2_some (o : O4) : ∀ (g : Nat) (c n : Int), g ≤ 48 → find2 o g = some (c, n) → 0 ≤ c ∧ c ≤ 255 ∧ 0 ≤ n ∧ n ≤ 255 ∧ tellsM [c, n] o = true := by
  intro g
  induction g with
  | zero => intro c n _ h; simp [find2] at h
  | succ g ih =>
    intro c n hg h
    rw [find2] at h
    split at h
    · exact ih c n (by omega) h
    · rename_i h1
      split at h
      · rename_i n' h2
        injection h with h
        injection h with h3 h4
        subst h4
        obtain ⟨k1, k2, k3⟩ := find2n_some o _ 256 n' (by omega) h2
        subst h3
        refine ⟨by omega, by omega, k1, k2, ?_⟩
        rw [tells2, k3]
        simpa using h1
      · exact ih c n (by omega) h
theorem findM_some (o : O4) (bs : List Int) (h : findM o = some bs) : tellsM bs o = true ∧ ∀ v ∈ bs, 0 ≤ v ∧ v ≤ 255 := by
  unfold findM then1 at h
  split at h
  · rename_i c h1
    injection h with h; subst h
    obtain ⟨k1, k2, k3⟩ := find1_some o 256 c (by omega) h1
    exact ⟨k3, by intro v hv; simp at hv; subst hv; exact ⟨k1, k2⟩⟩
  · unfold then2 at h
    split at h
    · rename_i c n h1
      injection h with h; subst h
      obtain ⟨k1, k2, k3, k4, k5⟩ := find2_some o 48 c n (by omega) h1
      exact ⟨k5, by intro v hv; simp at hv; omega⟩
    · unfold find3 at h
      split at h
      · rename_i h1
        injection h with h; subst h
        obtain ⟨hk, h1, h2, h3, h4⟩ := h1
        refine ⟨?_, by intro v hv; simp at hv; omega⟩
        obtain ⟨k, n, m, l⟩ := o
        simp only at hk ⊢
        rw [tells3 _ _ _ _ (by omega)]
        rcases hk with rfl | rfl <;> simp [moreM, sameB]
      · cases h

theorem find1_none (o : O4) : ∀ (g : Nat), find1 o g = none → ∀ c : Int, 256 - (g : Int) ≤ c → c ≤ 255 → ((oneM c).2 && sameB (oneM c).1 o) = false := by
  intro g
  induction g with
  | zero => intro _ c h1 h2; omega
  | succ g ih =>
    intro h c h1 h2
    rw [find1] at h
    split at h
    · cases h
    · rename_i h3
      by_cases hc : c = 255 - (g : Int)
      · rw [hc]; simpa using h3
      · exact ih h c (by omega) h2
theorem find2n_none (o : O4) (c : Int) : ∀ (g : Nat), find2n o c g = none → ∀ n : Int, 256 - (g : Int) ≤ n → n ≤ 255 → sameB (moreM c n 0) o = false := by
  intro g
  induction g with
  | zero => intro _ c h1 h2; omega
  | succ g ih =>
    intro h n h1 h2
    rw [find2n] at h
    split at h
    · cases h
    · rename_i h3
      by_cases hc : n = 255 - (g : Int)
      · rw [hc]; simpa using h3
      · exact ih h n (by omega) h2
theorem find2_none (o : O4) : ∀ (g : Nat), find2 o g = none → ∀ c n : Int, 176 - (g : Int) ≤ c → c ≤ 175 → 0 ≤ n → n ≤ 255 → ((oneM c).2 || c == 132 || c == 134) = false → sameB (moreM c n 0) o = false := by
  intro g
  induction g with
  | zero => intro _ c n h1 h2; omega
  | succ g ih =>
    intro h c n h1 h2 h3 h4 h5
    rw [find2] at h
    by_cases hc : c = 175 - (g : Int)
    · rw [← hc, h5] at h
      simp only [Bool.false_eq_true, if_false] at h
      split at h
      · cases h
      · rename_i h6
        exact find2n_none o c 256 h6 n (by omega) h4
    · refine ih ?_ c n (by omega) h2 h3 h4 h5
      split at h
      · exact h
      · split at h
        · cases h
        · exact h

theorem sameB_self (o : O4) : sameB o o = true := by simp [sameB]
theorem moreM_two (c n m m' : Int) (h : ¬ (c = 132 ∨ c = 134)) : moreM c n m = moreM c n m' := by
  have h1 : ¬ c = 132 := fun e => h (Or.inl e)
  have h2 : ¬ c = 134 := fun e => h (Or.inr e)
  unfold moreM
  simp only [if_neg h1, if_neg h2]

/-- what is told is found, in no more bytes -/
theorem findM_at (bs : List Int) (hb : ∀ v ∈ bs, 0 ≤ v ∧ v ≤ 255) (j : Nat) (h : (atN bs j).2 = 0) : ∃ cs, findM (atN bs j).1 = some cs ∧ (cs.length : Int) ≤ (atN bs j).1.l := by
  have hl := (atN_len bs hb j h).1
  have v0 := getD_val bs hb j
  have v1 := getD_val bs hb (j + 1)
  have v2 := getD_val bs hb (j + 2)
  obtain ⟨x, hx⟩ : ∃ x, x = (atN bs j).1 := ⟨_, rfl⟩
  rw [← hx] at hl ⊢
  unfold atN at h hx
  by_cases h1 : bs.length ≤ j
  · rw [if_pos h1] at h; simp at h
  rw [if_neg h1] at h hx
  unfold findM
  cases hf1 : find1 x 256 with
  | some c => exact ⟨[c], rfl, by simpa using hl⟩
  | none =>
    have k1 := find1_none x 256 hf1 (bs.getD j 0) (by omega) v0.2
    by_cases h2 : (oneM (bs.getD j 0)).2 = true
    · rw [if_pos h2] at hx
      rw [hx, h2, sameB_self] at k1
      simp at k1
    rw [if_neg h2] at h hx
    by_cases h3 : bs.length < j + 2 ∨ ((bs.getD j 0 = 132 ∨ bs.getD j 0 = 134) ∧ bs.length < j + 3)
    · rw [if_pos h3] at h; simp at h
    rw [if_neg h3] at hx
    simp only at hx
    have hlong := (oneM_long _ v0).1 (by simpa using h2)
    unfold longC at hlong
    have hml := moreLen (bs.getD j 0) (bs.getD (j + 1) 0) (bs.getD (j + 2) 0)
    rw [← hx] at hml
    simp only [then1]
    cases hf2 : find2 x 48 with
    | some p =>
      obtain ⟨c, n⟩ := p
      refine ⟨[c, n], rfl, ?_⟩
      rw [hml]
      simp only [List.length_cons, List.length_nil]
      split <;> omega
    | none =>
      simp only [then2]
      by_cases h4 : bs.getD j 0 = 132 ∨ bs.getD j 0 = 134
      · rw [if_pos h4] at hml
        have hx2 : x = ⟨132 + (bs.getD j 0 - 132) / 2 - 115, bs.getD (j + 2) 0, bs.getD (j + 1) 0, 3⟩ := by
          rw [hx]
          rcases h4 with e | e <;> rw [e] <;> rfl
        rw [find3, if_pos (by rw [hx2]; simp only; omega)]
        exact ⟨_, rfl, by rw [hml]; simp⟩
      · rw [moreM_two _ _ _ 0 h4] at hx
        have k2 := find2_none x 48 hf2 (bs.getD j 0) (bs.getD (j + 1) 0) (by omega) (by omega) v1.1 v1.2 (by
          have e0 : (oneM (bs.getD j 0)).2 = false := by simpa using h2
          have e1 : (bs.getD j 0 == 132) = false := by rw [beq_eq_false_iff_ne]; exact fun e => h4 (Or.inl e)
          have e2 : (bs.getD j 0 == 134) = false := by rw [beq_eq_false_iff_ne]; exact fun e => h4 (Or.inr e)
          rw [e0, e1, e2]; rfl)
        rw [hx, sameB_self] at k2
        simp at k2

theorem find1_same (k n m l l' : Int) : ∀ g, find1 ⟨k, n, m, l⟩ g = find1 ⟨k, n, m, l'⟩ g := by
  intro g
  induction g with
  | zero => rfl
  | succ g ih => rw [find1, find1, ih]; rfl
theorem find2n_same (k n m l l' c : Int) : ∀ g, find2n ⟨k, n, m, l⟩ c g = find2n ⟨k, n, m, l'⟩ c g := by
  intro g
  induction g with
  | zero => rfl
  | succ g ih => rw [find2n, find2n, ih]; rfl
theorem find2_same (k n m l l' : Int) : ∀ g, find2 ⟨k, n, m, l⟩ g = find2 ⟨k, n, m, l'⟩ g := by
  intro g
  induction g with
  | zero => rfl
  | succ g ih => rw [find2, find2, ih, find2n_same k n m l l']
theorem findM_same (k n m l l' : Int) : findM ⟨k, n, m, l⟩ = findM ⟨k, n, m, l'⟩ := by
  have h1 : then1 (find1 ⟨k, n, m, l⟩ 256) ⟨k, n, m, l⟩ = then1 (find1 ⟨k, n, m, l'⟩ 256) ⟨k, n, m, l'⟩ := by
    rw [find1_same k n m l l']
    unfold then1
    rw [find2_same k n m l l']
    rfl
  exact h1

/-! ### behind other bytes -/
theorem getD_pre (a b : List Int) (j : Nat) (h : j < a.length) : (a ++ b).getD j 0 = a.getD j 0 := by
  rw [List.getD_eq_getElem?_getD, List.getD_eq_getElem?_getD, List.getElem?_append_left h]
theorem getD_post (a b : List Int) (i : Nat) : (a ++ b).getD (a.length + i) 0 = b.getD i 0 := by
  rw [List.getD_eq_getElem?_getD, List.getD_eq_getElem?_getD, List.getElem?_append_right (by omega)]
  congr 2
  omega
theorem atN_pre (a b : List Int) (j : Nat) (h : (atN a j).2 = 0) : atN (a ++ b) j = atN a j := by
  unfold atN at h ⊢
  by_cases h1 : a.length ≤ j
  · rw [if_pos h1] at h; simp at h
  rw [if_neg h1] at h ⊢
  rw [if_neg (by rw [List.length_append]; omega), getD_pre a b j (by omega)]
  by_cases h2 : (oneM (a.getD j 0)).2 = true
  · rw [if_pos h2, if_pos h2]
  rw [if_neg h2] at h ⊢
  rw [if_neg h2]
  by_cases h3 : a.length < j + 2 ∨ ((a.getD j 0 = 132 ∨ a.getD j 0 = 134) ∧ a.length < j + 3)
  · rw [if_pos h3] at h; simp at h
  rw [if_neg h3, if_neg (by rw [List.length_append]; omega), getD_pre a b (j + 1) (by omega)]
  by_cases h4 : a.getD j 0 = 132 ∨ a.getD j 0 = 134
  · rw [getD_pre a b (j + 2) (by omega)]
  · rw [moreM_two _ _ _ (a.getD (j + 2) 0) h4]
theorem atN_post (a b : List Int) (i : Nat) : atN (a ++ b) (a.length + i) = atN b i := by
  have e1 := getD_post a b i
  have e2 := getD_post a b (i + 1)
  have e3 := getD_post a b (i + 2)
  rw [← Nat.add_assoc] at e2 e3
  unfold atN
  rw [e1, e2, e3, List.length_append]
  by_cases h1 : b.length ≤ i
  · rw [if_pos h1, if_pos (by omega)]
  rw [if_neg h1, if_neg (by omega)]
  congr 1
  by_cases h3 : b.length < i + 2 ∨ ((b.getD i 0 = 132 ∨ b.getD i 0 = 134) ∧ b.length < i + 3)
  · rw [if_pos h3, if_pos (by omega)]
  · rw [if_neg h3, if_neg (by omega)]

theorem allF_post (a b : List Int) : ∀ (f i : Nat), allF f (a ++ b) (a.length + i) = allF f b i := by
  intro f
  induction f with
  | zero => intro i; rfl
  | succ f ih =>
    intro i
    rw [allF, allF, atN_post, List.length_append, Nat.add_assoc, ih]
    by_cases h1 : b.length ≤ i
    · rw [if_pos h1, if_pos (by omega)]
    · rw [if_neg h1, if_neg (by omega)]
theorem allF_fuel (bs : List Int) (hb : ∀ v ∈ bs, 0 ≤ v ∧ v ≤ 255) : ∀ (f f' j : Nat), bs.length ≤ j + f → bs.length ≤ j + f' → allF f bs j = allF f' bs j := by
  intro f
  induction f with
  | zero => intro f' j h1 h2; rw [allF_done f' bs j (by omega)]; rfl
  | succ f ih =>
    intro f' j h1 h2
    cases f' with
    | zero => rw [allF_done _ bs j (by omega)]; rfl
    | succ f' =>
      rw [allF, allF]
      by_cases h3 : bs.length ≤ j
      · rw [if_pos h3, if_pos h3]
      rw [if_neg h3, if_neg h3]
      by_cases h4 : (atN bs j).2 ≠ 0
      · rw [if_pos h4, if_pos h4]
      rw [if_neg h4, if_neg h4]
      have hl := atN_len bs hb j (by simpa using h4)
      rw [ih f' (j + (atN bs j).1.l.toNat) (by omega) (by omega)]
theorem joinA_nil (f : Nat) (bs : List Int) (j : Nat) : joinA [] (allF f bs j) = allF f bs j := by
  rw [joinA]
  split
  · rename_i h; rw [← allF_err bs f j h]
  · rename_i h
    have h' : (allF f bs j).2 = 0 := by simpa using h
    rw [List.nil_append, ← h']
theorem joinA_cons (x : O4) (l : List O4) (r : List O4 × Int) : (if (joinA l r).2 ≠ 0 then ([], (joinA l r).2) else (x :: (joinA l r).1, 0)) = joinA (x :: l) r := by
  unfold joinA
  by_cases h : r.2 ≠ 0
  · simp only [if_pos h]
  · simp only [if_neg h]; rfl
theorem allF_app (a b : List Int) (ha : ∀ v ∈ a, 0 ≤ v ∧ v ≤ 255) (hb : ∀ v ∈ b, 0 ≤ v ∧ v ≤ 255) : ∀ (f j F : Nat), (allF f a j).2 = 0 → a.length ≤ j + f → j ≤ a.length → (a ++ b).length ≤ j + F →
    allF F (a ++ b) j = joinA (allF f a j).1 (allM b) := by
  intro f
  have base : ∀ j F, a.length ≤ j → j ≤ a.length → (a ++ b).length ≤ j + F → allF F (a ++ b) j = joinA [] (allM b) := by
    intro j F h1 h2 h3
    obtain rfl : j = a.length + 0 := by omega
    rw [allF_post, allM, joinA_nil]
    exact allF_fuel b hb _ _ _ (by rw [List.length_append] at h3; omega) (by omega)
  induction f with
  | zero =>
    intro j F _ h1 h2 h3
    exact base j F (by omega) h2 h3
  | succ f ih =>
    intro j F he h1 h2 h3
    by_cases hj : a.length ≤ j
    · rw [allF_done (f + 1) a j hj]
      exact base j F hj h2 h3
    obtain ⟨F', rfl⟩ : ∃ F', F = F' + 1 := ⟨F - 1, by rw [List.length_append] at h3; omega⟩
    have ea : allF (f + 1) a j = if (atN a j).2 ≠ 0 then ([], (atN a j).2) else if (allF f a (j + (atN a j).1.l.toNat)).2 ≠ 0 then ([], (allF f a (j + (atN a j).1.l.toNat)).2) else ((atN a j).1 :: (allF f a (j + (atN a j).1.l.toNat)).1, 0) := by
      rw [allF, if_neg hj]
    rw [ea] at he ⊢
    by_cases h4 : (atN a j).2 ≠ 0
    · rw [if_pos h4] at he; exact absurd he h4
    rw [if_neg h4] at he ⊢
    have hl := atN_len a ha j (by simpa using h4)
    by_cases h5 : (allF f a (j + (atN a j).1.l.toNat)).2 ≠ 0
    · rw [if_pos h5] at he; exact absurd he h5
    rw [if_neg h5]
    have hi := ih (j + (atN a j).1.l.toNat) F' (by simpa using h5) (by omega) (by omega) (by omega)
    rw [allF, if_neg (by rw [List.length_append]; omega), atN_pre a b j (by simpa using h4), if_neg h4, hi]
    exact joinA_cons _ _ _
theorem allM_app (a b : List Int) (ha : ∀ v ∈ a, 0 ≤ v ∧ v ≤ 255) (hb : ∀ v ∈ b, 0 ≤ v ∧ v ≤ 255) (h : (allM a).2 = 0) : allM (a ++ b) = joinA (allM a).1 (allM b) :=
  allF_app a b ha hb a.length 0 (a ++ b).length h (by omega) (by omega) (by omega)

/-! ### each at its place -/
theorem posN_cons (x : O4) (l : List O4) (i : Nat) : posN (x :: l) (i + 1) = x.l.toNat + posN l i := by simp [posN, lens]
theorem allF_at (bs : List Int) : ∀ (f j : Nat), (allF f bs j).2 = 0 → ∀ (i : Nat) (o : O4), (allF f bs j).1[i]? = some o → atN bs (j + posN (allF f bs j).1 i) = (o, 0) := by
  intro f
  induction f with
  | zero => intro j _ i o h; simp [allF] at h
  | succ f ih =>
    intro j he i o ho
    by_cases hj : bs.length ≤ j
    · rw [allF, if_pos hj] at ho; simp at ho
    rw [allF, if_neg hj] at he ho ⊢
    by_cases h4 : (atN bs j).2 ≠ 0
    · rw [if_pos h4] at he; exact absurd he h4
    rw [if_neg h4] at he ho ⊢
    by_cases h5 : (allF f bs (j + (atN bs j).1.l.toNat)).2 ≠ 0
    · rw [if_pos h5] at he; exact absurd he h5
    rw [if_neg h5] at ho ⊢
    simp only at ho ⊢
    cases i with
    | zero =>
      simp at ho
      rw [posN_zero, ← ho, Nat.add_zero]
      have : (atN bs j).2 = 0 := by simpa using h4
      rw [← this]
    | succ i =>
      rw [List.getElem?_cons_succ] at ho
      have := ih (j + (atN bs j).1.l.toNat) (by simpa using h5) i o ho
      rw [posN_cons, ← Nat.add_assoc]
      exact this
theorem allM_at (bs : List Int) (h : (allM bs).2 = 0) (i : Nat) (o : O4) (ho : (allM bs).1[i]? = some o) : atN bs (posN (allM bs).1 i) = (o, 0) := by
  have := allF_at bs bs.length 0 h i o ho
  rwa [Nat.zero_add] at this

/-! ### written and read again -/
theorem bytesF_two (l : List O4) : (bytesF l).2 = 0 ∨ (bytesF l).2 = 2 := by
  induction l with
  | nil => exact Or.inl rfl
  | cons o r ih =>
    rw [bytesF]
    split
    · exact Or.inr rfl
    · split
      · exact Or.inr rfl
      · split
        · exact ih
        · exact Or.inl rfl
theorem bytesF_bad (l : List O4) (o : O4) (ho : o ∈ l) (hk : o.k = 0) : bytesF l = ([], 2) := by
  induction l with
  | nil => cases ho
  | cons x r ih =>
    rw [bytesF]
    split
    · rfl
    · by_cases hx : x.k = 0
      · rw [if_pos hx]
      · rw [if_neg hx]
        rcases List.mem_cons.1 ho with rfl | h
        · exact absurd hk hx
        · rw [ih h, if_pos (by simp)]
/-- the same, of so many bytes as are found -/
def again (o : O4) : O4 := ⟨o.k, o.n, o.m, ((findM o).getD []).length⟩
theorem findM_again (o : O4) : findM (again o) = findM o := findM_same _ _ _ _ _
theorem bytesF_again (l : List O4) : bytesF (l.map again) = bytesF l := by
  induction l with
  | nil => rfl
  | cons o r ih => rw [List.map_cons, bytesF, bytesF, ih, findM_again]; rfl
theorem allM_one (cs : List Int) (o : O4) (h : findM o = some cs) : allM cs = ([again o], 0) := by
  obtain ⟨h1, h2⟩ := findM_some o cs h
  have h3 := tells_at cs o h1
  have h4 := findM_len o cs h
  obtain ⟨f, hf⟩ : ∃ f, cs.length = f + 1 := ⟨cs.length - 1, by omega⟩
  rw [atM_zero] at h3
  rw [allM, hf, allF, if_neg (by omega), h3, if_neg (by simp)]
  simp only [Nat.zero_add, Int.toNat_natCast]
  rw [allF_done f cs cs.length (Nat.le_refl _), if_neg (by simp)]
  unfold again
  rw [h]
  rfl
theorem back_all (l : List O4) (h : ∀ o ∈ l, o.k ≠ 0 ∧ ∃ cs, findM o = some cs ∧ (cs.length : Int) ≤ o.l) :
    (bytesF l).2 = 0 ∧ allM (bytesF l).1 = (l.map again, 0) ∧ (∀ v ∈ (bytesF l).1, 0 ≤ v ∧ v ≤ 255) ∧ (bytesF l).1.length ≤ lens l := by
  induction l with
  | nil => exact ⟨rfl, rfl, by simp [bytesF], by simp [bytesF]⟩
  | cons o r ih =>
    obtain ⟨i1, i2, i3, i4⟩ := ih (fun o ho => h o (List.mem_cons_of_mem _ ho))
    obtain ⟨hk, cs, hf, hl⟩ := h o List.mem_cons_self
    have e : bytesF (o :: r) = (cs ++ (bytesF r).1, 0) := by
      rw [bytesF, hf]
      simp only
      rw [if_neg hk, if_neg (by simp [i1])]
    obtain ⟨_, hv⟩ := findM_some o cs hf
    have h1 := allM_one cs o hf
    refine ⟨by rw [e], ?_, ?_, ?_⟩
    · rw [e]
      simp only
      rw [allM_app cs _ hv i3 (by rw [h1]), h1, i2, joinA, if_neg (by simp)]
      rfl
    · rw [e]
      intro v hvm
      rcases List.mem_append.1 hvm with h | h
      · exact hv v h
      · exact i3 v h
    · rw [e]
      simp only [List.length_append]
      have : lens (o :: r) = o.l.toNat + lens r := by simp [lens]
      omega
theorem allF_mem (bs : List Int) (hb : ∀ v ∈ bs, 0 ≤ v ∧ v ≤ 255) (h : (allM bs).2 = 0) (o : O4) (ho : o ∈ (allM bs).1) : ∃ cs, findM o = some cs ∧ (cs.length : Int) ≤ o.l := by
  obtain ⟨i, hi⟩ := List.getElem?_of_mem ho
  have h1 := allM_at bs h i o hi
  have h2 := findM_at bs hb (posN (allM bs).1 i) (by rw [h1])
  rwa [h1] at h2
/-- what bytes tell, none of it bad, is written in no more bytes, and tells the same -/
theorem back_law (bs : List Int) (hb : ∀ v ∈ bs, 0 ≤ v ∧ v ≤ 255) (h : (allM bs).2 = 0) (hk : ∀ o ∈ (allM bs).1, o.k ≠ 0) :
    (bytesF (allM bs).1).2 = 0 ∧ allM (bytesF (allM bs).1).1 = ((allM bs).1.map again, 0) ∧ (∀ v ∈ (bytesF (allM bs).1).1, 0 ≤ v ∧ v ≤ 255) ∧ (bytesF (allM bs).1).1.length ≤ bs.length := by
  have h1 := back_all (allM bs).1 (fun o ho => ⟨hk o ho, allF_mem bs hb h o ho⟩)
  rw [(allM_facts bs hb h).2] at h1
  exact h1
theorem again_le (bs : List Int) (hb : ∀ v ∈ bs, 0 ≤ v ∧ v ≤ 255) (h : (allM bs).2 = 0) (o : O4) (ho : o ∈ (allM bs).1) : (again o).l ≤ o.l := by
  obtain ⟨cs, hf, hl⟩ := allF_mem bs hb h o ho
  unfold again
  rw [hf]
  exact hl
theorem one_at (o : O4) (bs : List Int) (h : findM o = some bs) : atM bs 0 = (⟨o.k, o.n, o.m, bs.length⟩, 0) := tells_at bs o (findM_some o bs h).1
end Go.Proofs.YtdbignfpmpohiaaDoor
