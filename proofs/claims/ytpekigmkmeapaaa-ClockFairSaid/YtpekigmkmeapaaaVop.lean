/-
  The plain law of 'vic': it finds somebody just if somebody may go; whom it finds may go, and is not touched; how many may go it does not turn.
-/
import Derived.Test.YtpekigmkmeapaaaKno
namespace Go.Proofs.Ytpekigmkmeapaaa
open Go.RowKit

/-- may it go? -/
def Pl.op (x : Pl) : Bool := x.i && !x.p
def opens (L : List Pl) : Nat := L.countP Pl.op

theorem countP_set {α : Type} (f : α → Bool) (L : List α) (i : Nat) (x y : α) (h : L[i]? = some x) : (L.set i y).countP f + (if f x then 1 else 0) = L.countP f + (if f y then 1 else 0) := by
  induction L generalizing i with
  | nil => simp at h
  | cons z L ih =>
    cases i with
    | zero => simp at h; subst h; simp only [List.set_cons_zero, List.countP_cons]; omega
    | succ i =>
      simp at h
      have := ih i h
      simp only [List.set_cons_succ, List.countP_cons]
      omega

theorem opens_touch (L : List Pl) (i : Nat) (x : Pl) (b : Bool) (h : L[i]? = some x) : opens (L.set i { x with t := b }) = opens L := by
  have := countP_set Pl.op L i x { x with t := b } h
  have e : Pl.op { x with t := b } = x.op := rfl
  rw [e] at this
  unfold opens
  omega

/-- what is so of whatever has been found, or not -/
theorem vic_keeps (f : Nat) : ∀ (L : List Pl) (h : Nat), h < L.length → (vic f L h).1.length = L.length ∧ (vic f L h).2.1 < L.length ∧ opens (vic f L h).1 = opens L ∧
    ∀ v, (vic f L h).2.2 = some v → v < L.length ∧ (vic f L h).1[v]? = some ⟨true, false, false⟩ := by
  induction f with
  | zero => intro L h hh; exact ⟨rfl, hh, rfl, fun v hv => by cases hv⟩
  | succ f ih =>
    intro L h hh
    have hm : (h + 1) % L.length < L.length := Nat.mod_lt _ (by omega)
    obtain ⟨x, hx⟩ : ∃ x, L[h]? = some x := ⟨_, List.getElem?_eq_getElem hh⟩
    rw [vic, hx]
    simp only
    split
    · split
      · have h2 := ih (L.set h { x with t := false }) ((h + 1) % L.length) (by simpa using hm)
        simp only [List.length_set] at h2
        exact ⟨h2.1, h2.2.1, h2.2.2.1.trans (opens_touch L h x false hx), h2.2.2.2⟩
      · rename_i h1 h2
        refine ⟨rfl, hm, rfl, fun v hv => ?_⟩
        injection hv with hv
        subst hv
        refine ⟨hh, ?_⟩
        rw [hx]
        obtain ⟨i, t, p⟩ := x
        simp at h1 h2
        rw [h1.1, h1.2, h2]
    · exact ih L _ hm

/-- where nobody may go, nobody is found -/
theorem vic_nobody (f : Nat) : ∀ (L : List Pl) (h : Nat), opens L = 0 → (vic f L h).2.2 = none := by
  induction f with
  | zero => intro L h _; rfl
  | succ f ih =>
    intro L h ho
    rw [vic]
    cases hx : L[h]? with
    | none => rfl
    | some x =>
      have hno : (x.i && !x.p) = false := by
        have := List.countP_eq_zero.1 ho x (List.mem_of_getElem? hx)
        simpa [Pl.op, opens] using this
      simp only [hno]
      exact ih L _ ho

theorem next_mod (h d n : Nat) : ((h + 1) % n + d) % n = (h + (d + 1)) % n := by
  rw [Nat.mod_add_mod]; congr 1; omega

theorem far_mod (h d n : Nat) (hh : h < n) (hd : d + 1 < n) : (h + (d + 1)) % n ≠ h := by
  intro e
  rcases Nat.lt_or_ge (h + (d + 1)) n with h1 | h1
  · rw [Nat.mod_eq_of_lt h1] at e; omega
  · rw [Nat.mod_eq_sub_mod h1, Nat.mod_eq_of_lt (by omega)] at e; omega

theorem vic_finds2 : ∀ (d f : Nat) (L : List Pl) (h : Nat), h < L.length → d < L.length → d < f → L[(h + d) % L.length]? = some ⟨true, false, false⟩ → ∃ v, (vic f L h).2.2 = some v := by
  intro d
  induction d with
  | zero =>
    intro f L h hh _ hf hx
    obtain ⟨f, rfl⟩ : ∃ f', f = f' + 1 := ⟨f - 1, by omega⟩
    rw [Nat.add_zero, Nat.mod_eq_of_lt hh] at hx
    exact ⟨h, by rw [vic, hx]; rfl⟩
  | succ d ih =>
    intro f L h hh hd hf hx
    obtain ⟨f, rfl⟩ : ∃ f', f = f' + 1 := ⟨f - 1, by omega⟩
    have hm : (h + 1) % L.length < L.length := Nat.mod_lt _ (by omega)
    obtain ⟨x, hxh⟩ : ∃ x, L[h]? = some x := ⟨_, List.getElem?_eq_getElem hh⟩
    rw [vic, hxh]
    simp only
    split
    · split
      · refine ih f _ _ (by simpa using hm) (by simpa using by omega) (by omega) ?_
        rw [List.length_set, next_mod, List.getElem?_set_ne (Ne.symm (far_mod h d _ hh hd))]
        exact hx
      · exact ⟨h, rfl⟩
    · exact ih f L _ hm (by omega) (by omega) (by rw [next_mod]; exact hx)

theorem vic_finds1 : ∀ (d f : Nat) (L : List Pl) (h : Nat) (x : Pl), h < L.length → d < L.length → L.length + d < f → L[(h + d) % L.length]? = some x → x.op = true → ∃ v, (vic f L h).2.2 = some v := by
  intro d
  induction d with
  | zero =>
    intro f L h x hh _ hf hx ho
    obtain ⟨f, rfl⟩ : ∃ f', f = f' + 1 := ⟨f - 1, by omega⟩
    have hm : (h + 1) % L.length < L.length := Nat.mod_lt _ (by omega)
    rw [Nat.add_zero, Nat.mod_eq_of_lt hh] at hx
    have ho' : (x.i && !x.p) = true := ho
    rw [vic, hx]
    simp only [ho', if_true]
    split
    · refine vic_finds2 (L.length - 1) f _ _ (by simpa using hm) (by simpa using by omega) (by omega) ?_
      have e : h + (L.length - 1 + 1) = h + L.length := by omega
      rw [List.length_set, next_mod, e, Nat.add_mod_right, Nat.mod_eq_of_lt hh, List.getElem?_set_self hh]
      obtain ⟨i, t, p⟩ := x
      simp at ho'
      rw [ho'.1, ho'.2]
    · exact ⟨h, rfl⟩
  | succ d ih =>
    intro f L h x hh hd hf hx ho
    obtain ⟨f, rfl⟩ : ∃ f', f = f' + 1 := ⟨f - 1, by omega⟩
    have hm : (h + 1) % L.length < L.length := Nat.mod_lt _ (by omega)
    obtain ⟨y, hy⟩ : ∃ y, L[h]? = some y := ⟨_, List.getElem?_eq_getElem hh⟩
    rw [vic, hy]
    simp only
    split
    · split
      · refine ih f _ _ x (by simpa using hm) (by simpa using by omega) (by simpa using by omega) ?_ ho
        rw [List.length_set, next_mod, List.getElem?_set_ne (Ne.symm (far_mod h d _ hh hd))]
        exact hx
      · exact ⟨h, rfl⟩
    · exact ih f L _ x hm (by omega) (by omega) (by rw [next_mod]; exact hx) ho

/-- where somebody may go, somebody is found -/
theorem vic_some (L : List Pl) (h : Nat) (hh : h < L.length) (ho : 0 < opens L) : ∃ v L' h', vic (2 * L.length) L h = (L', h', some v) ∧ v < L.length ∧ L'[v]? = some ⟨true, false, false⟩ ∧ h' < L.length ∧ L'.length = L.length ∧ opens L' = opens L := by
  obtain ⟨x, hx, hxo⟩ := List.countP_pos_iff.1 ho
  obtain ⟨j, hj⟩ := List.getElem?_of_mem hx
  have hjl := (List.getElem?_eq_some_iff.1 hj).1
  have hf : ∃ v, (vic (2 * L.length) L h).2.2 = some v := by
    by_cases e : h ≤ j
    · refine vic_finds1 (j - h) _ L h x hh (by omega) (by omega) ?_ hxo
      rw [show h + (j - h) = j from by omega, Nat.mod_eq_of_lt hjl]
      exact hj
    · refine vic_finds1 (j + L.length - h) _ L h x hh (by omega) (by omega) ?_ hxo
      rw [show h + (j + L.length - h) = j + L.length from by omega, Nat.add_mod_right, Nat.mod_eq_of_lt hjl]
      exact hj
  obtain ⟨v, hv⟩ := hf
  obtain ⟨h1, h2, h3, h4⟩ := vic_keeps (2 * L.length) L h hh
  obtain ⟨h5, h6⟩ := h4 v hv
  exact ⟨v, _, _, by rw [← hv], h5, h6, h2, h1, h3⟩

theorem opens_out (L : List Pl) (v : Nat) (h : L[v]? = some ⟨true, false, false⟩) : opens (L.set v ⟨false, false, false⟩) + 1 = opens L := by
  have := countP_set Pl.op L v _ ⟨false, false, false⟩ h
  simpa [Pl.op, opens] using this
end Go.Proofs.Ytpekigmkmeapaaa
