/-
  The contract of websterref12.At in one; the plain law of 'atM'.
-/
import Derived.Test.YtdbignfpmpohiaaDoorRtc
namespace Go.Proofs.YtdbignfpmpohiaaDoor
open Go.RowKit

theorem oneM_l (c : Int) (h : 0 ≤ c ∧ c ≤ 255) : (oneM c).1.l = 1 := by
  have key : ∀ n : Nat, n < 256 → (oneM n).1.l = 1 := by decide +kernel
  have := key c.toNat (by omega)
  rwa [show ((c.toNat : Nat) : Int) = c from by omega] at this

theorem longM_one (c : Int) (h : ¬ longC c) : longM c = 1 := by
  unfold longC at h
  unfold longM
  rw [if_neg (by omega), if_neg (by omega)]
theorem longM_two (c : Int) (h : longC c) (h1 : ¬ (c = 132 ∨ c = 134)) : longM c = 2 := by
  unfold longC at h
  unfold longM
  rw [if_neg h1, if_pos (by omega)]
theorem longM_three (c : Int) (h1 : c = 132 ∨ c = 134) : longM c = 3 := by
  unfold longM
  rw [if_pos h1]
theorem moreM_l2 (c n m : Int) (h1 : ¬ (c = 132 ∨ c = 134)) : (moreM c n m).l = 2 := by
  unfold moreM
  repeat' split
  all_goals first | rfl | (exfalso; omega)
theorem moreM_l3 (c n m : Int) (h1 : c = 132 ∨ c = 134) : (moreM c n m).l = 3 := by
  rcases h1 with rfl | rfl <;> simp [moreM]
theorem moreM_m (c n m m' : Int) (h1 : ¬ (c = 132 ∨ c = 134)) : moreM c n m = moreM c n m' := by
  unfold moreM
  repeat' split
  all_goals first | rfl | (exfalso; omega)

theorem rat_any (w : World) (A : Option Addr) (bs : List Int) (cap : Nat) (i : Int) (hcap : cap ≤ 9223372036854775807) (hlen : bs.length ≤ cap) (hB : Byts w A bs) :
    Calls Tryd.prog 13 #[.slice A bs.length cap, .int .i64 i] w (RetE (atM bs i) w) := by
  by_cases h0 : i < 0
  · rw [atM, if_pos h0]
    exact rat_none w A _ cap i (Or.inl h0)
  obtain ⟨j, rfl⟩ : ∃ j : Nat, i = j := ⟨i.toNat, by omega⟩
  rw [atM, if_neg h0, Int.toNat_natCast]
  by_cases h1 : bs.length ≤ j
  · rw [atN, if_pos h1]
    exact rat_none w A _ cap j (Or.inr (by omega))
  obtain ⟨c, hc⟩ : ∃ c, bs[j]? = some c := ⟨_, List.getElem?_eq_getElem (by omega)⟩
  obtain ⟨hc0, hc1, b, off, rfl, hb, hcell⟩ := hB j c hc
  rw [atN, if_neg h1, getD_of hc]
  cases ho : (oneM c).2 with
  | true =>
    rw [if_pos rfl]
    have hnl : ¬ longC c := fun h => by rw [(oneM_long c ⟨hc0, hc1⟩).2 h] at ho; cases ho
    exact rat_one w b off _ cap j c hcap hlen (by omega) ⟨hc0, hc1⟩ hb hcell (longM_one c hnl) (oneM_l c ⟨hc0, hc1⟩)
  | false =>
    rw [if_neg (by simp)]
    have hlc := (oneM_long c ⟨hc0, hc1⟩).1 ho
    by_cases h4 : c = 132 ∨ c = 134
    · by_cases h3 : bs.length < j + 3
      · rw [if_pos (Or.inr ⟨h4, h3⟩)]
        exact rat_form w b off _ cap j c 3 hcap hlen (by omega) ⟨hc0, hc1⟩ hb hcell (longM_three c h4) (by omega)
      · obtain ⟨n, hn⟩ : ∃ n, bs[j + 1]? = some n := ⟨_, List.getElem?_eq_getElem (by omega)⟩
        obtain ⟨hn0, hn1, b', off', hA', _, hcell2⟩ := hB (j + 1) n hn
        obtain ⟨rfl, rfl⟩ : b = b' ∧ off = off' := by simpa using hA'
        obtain ⟨m, hm⟩ : ∃ m, bs[j + 2]? = some m := ⟨_, List.getElem?_eq_getElem (by omega)⟩
        obtain ⟨hm0, hm1, b', off', hA', _, hcell3⟩ := hB (j + 2) m hm
        obtain ⟨rfl, rfl⟩ : b = b' ∧ off = off' := by simpa using hA'
        rw [if_neg (by omega), getD_of hn, getD_of hm]
        exact rat_three w b off _ cap j c n m hcap hlen (by omega) ⟨hc0, hc1⟩ ⟨hn0, hn1⟩ hb hlc hcell hcell2 ⟨hm0, hm1⟩ hcell3 (longM_three c h4) (moreM_l3 c n m h4)
    · by_cases h2 : bs.length < j + 2
      · rw [if_pos (Or.inl h2)]
        exact rat_form w b off _ cap j c 2 hcap hlen (by omega) ⟨hc0, hc1⟩ hb hcell (longM_two c hlc h4) (by omega)
      · obtain ⟨n, hn⟩ : ∃ n, bs[j + 1]? = some n := ⟨_, List.getElem?_eq_getElem (by omega)⟩
        obtain ⟨hn0, hn1, b', off', hA', _, hcell2⟩ := hB (j + 1) n hn
        obtain ⟨rfl, rfl⟩ : b = b' ∧ off = off' := by simpa using hA'
        rw [if_neg (by intro h; rcases h with h | h; exact h2 h; exact h4 h.1), getD_of hn, moreM_m c n _ 0 h4]
        exact rat_two w b off _ cap j c n hcap hlen (by omega) ⟨hc0, hc1⟩ ⟨hn0, hn1⟩ hb hlc hcell hcell2 (longM_two c hlc h4) (moreM_l2 c n 0 h4)

/-- where something is told, it has a byte or more, and no more than there are -/
theorem atN_len (bs : List Int) (hb : ∀ v ∈ bs, 0 ≤ v ∧ v ≤ 255) (i : Nat) (h : (atN bs i).2 = 0) : 1 ≤ (atN bs i).1.l ∧ (atN bs i).1.l ≤ 3 ∧ (i : Int) + (atN bs i).1.l ≤ bs.length := by
  unfold atN at h ⊢
  by_cases h1 : bs.length ≤ i
  · rw [if_pos h1] at h; simp at h
  rw [if_neg h1] at h ⊢
  have hi : bs[i]? = some (bs.getD i 0) := by
    rw [List.getElem?_eq_getElem (by omega), List.getD_eq_getElem?_getD, List.getElem?_eq_getElem (by omega)]; rfl
  have hc := hb _ (List.mem_of_getElem? hi)
  by_cases h2 : (oneM (bs.getD i 0)).2 = true
  · rw [if_pos h2] at h ⊢
    have := oneM_l _ hc
    simp only
    omega
  rw [if_neg h2] at h ⊢
  by_cases h3 : bs.length < i + 2 ∨ ((bs.getD i 0 = 132 ∨ bs.getD i 0 = 134) ∧ bs.length < i + 3)
  · rw [if_pos h3] at h; simp at h
  rw [if_neg h3]
  simp only
  by_cases h4 : bs.getD i 0 = 132 ∨ bs.getD i 0 = 134
  · rw [moreM_l3 _ _ _ h4]; omega
  · rw [moreM_l2 _ _ _ h4]; omega
end Go.Proofs.YtdbignfpmpohiaaDoor
