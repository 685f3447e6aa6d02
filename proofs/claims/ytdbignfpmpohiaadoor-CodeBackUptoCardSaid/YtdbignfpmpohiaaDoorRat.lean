/-
  The contract of websterref12.At, and that of code.At in one: both tell 'atM'.
-/
import Derived.Test.YtdbignfpmpohiaaDoorAtb
namespace Go.Proofs.YtdbignfpmpohiaaDoor
open Go.RowKit

theorem getD_of {bs : List Int} {i : Nat} {v : Int} (h : bs[i]? = some v) : bs.getD i 0 = v := by simp [List.getD, h]

theorem cat_any (w : World) (A : Option Addr) (bs : List Int) (cap : Nat) (i : Int) (ht : Tabs w) (hcap : cap ≤ 9223372036854775807) (hlen : bs.length ≤ cap) (hB : Byts w A bs) :
    Calls Tryd.prog 12 #[.slice A bs.length cap, .int .i64 i] w (RetE (atM bs i) w) := by
  by_cases h0 : i < 0
  · rw [atM, if_pos h0]
    exact cat_none w A _ cap i (Or.inl h0)
  obtain ⟨j, rfl⟩ : ∃ j : Nat, i = j := ⟨i.toNat, by omega⟩
  rw [atM, if_neg h0, Int.toNat_natCast]
  by_cases h1 : bs.length ≤ j
  · rw [atN, if_pos h1]
    exact cat_none w A _ cap j (Or.inr (by omega))
  obtain ⟨c, hc⟩ : ∃ c, bs[j]? = some c := ⟨_, List.getElem?_eq_getElem (by omega)⟩
  obtain ⟨hc0, hc1, b, off, rfl, hb, hcell⟩ := hB j c hc
  rw [atN, if_neg h1, getD_of hc]
  cases ho : (oneM c).2 with
  | true =>
    rw [if_pos rfl]
    exact cat_one w b off _ cap j c _ ht (by omega) ⟨hc0, hc1⟩ hb hcell (by rw [← ho])
  | false =>
    rw [if_neg (by simp)]
    have hlc := (oneM_long c ⟨hc0, hc1⟩).1 ho
    have hone : oneM c = ((oneM c).1, false) := by rw [← ho]
    by_cases h2 : bs.length < j + 2
    · rw [if_pos (Or.inl h2)]
      have e : bs.length = j + 1 := by omega
      rw [e]
      exact cat_form1 w b off cap j c _ ht hcap (by omega) ⟨hc0, hc1⟩ hb hcell hone
    obtain ⟨n, hn⟩ : ∃ n, bs[j + 1]? = some n := ⟨_, List.getElem?_eq_getElem (by omega)⟩
    obtain ⟨hn0, hn1, b', off', hA', _, hcell2⟩ := hB (j + 1) n hn
    obtain ⟨rfl, rfl⟩ : b = b' ∧ off = off' := by simpa using hA'
    by_cases h3 : bs.length < j + 3
    · have e : bs.length = j + 2 := by omega
      by_cases h4 : c = 132 ∨ c = 134
      · rw [if_pos (Or.inr ⟨h4, h3⟩), e]
        exact cat_form2 w b off cap j c _ ht hcap (by omega) h4 hb hcell hone
      · rw [if_neg (by intro h; rcases h with h | h; exact h2 h; exact h4 h.1), getD_of hn]
        have h5 : bs.getD (j + 2) 0 = 0 := by simp [List.getD, e]
        rw [h5, e]
        exact cat_two w b off cap j c n _ ht hcap (by omega) ⟨hc0, hc1⟩ ⟨hn0, hn1⟩ (by omega) (by omega) hlc hb hcell hcell2 hone
    · obtain ⟨m, hm⟩ : ∃ m, bs[j + 2]? = some m := ⟨_, List.getElem?_eq_getElem (by omega)⟩
      obtain ⟨hm0, hm1, b', off', hA', _, hcell3⟩ := hB (j + 2) m hm
      obtain ⟨rfl, rfl⟩ : b = b' ∧ off = off' := by simpa using hA'
      rw [if_neg (by intro h; rcases h with h | h; exact h2 h; exact h3 h.2), getD_of hn, getD_of hm]
      exact cat_three w b off _ cap j c n m _ ht hcap (by omega) hlen ⟨hc0, hc1⟩ ⟨hn0, hn1⟩ ⟨hm0, hm1⟩ hlc hb hcell hcell2 (by simpa [Nat.add_assoc] using hcell3) hone

set_option maxHeartbeats 1000000 in
theorem rat_none (w : World) (A : Option Addr) (len cap : Nat) (i : Int) (hi : i < 0 ∨ (len : Int) ≤ i) :
    Calls Tryd.prog 13 #[.slice A len cap, .int .i64 i] w (RetE (⟨0, 0, 0, 0⟩, 4) w) := by
  by_cases h0 : i < 0
  · clear hi
    go_enter Tryd.func13, Tryd.ntmps13
    go_wp2
    exact bodyPost_ret (results_cell_tmp Tryd.results13 _ _ w.heap.size 25 _ (0, 0) _ rfl (Blk.new w 25 _) Tryd.underlying25 rfl size25) rfl ⟨rfl, (Below.refl _ w).alloc (Nat.le_refl _) _⟩
  · have h1 : (len : Int) ≤ i := by omega
    clear hi
    go_enter Tryd.func13, Tryd.ntmps13
    go_wp2
    exact bodyPost_ret (results_cell_tmp Tryd.results13 _ _ w.heap.size 25 _ (0, 0) _ rfl (Blk.new w 25 _) Tryd.underlying25 rfl size25) rfl ⟨rfl, (Below.refl _ w).alloc (Nat.le_refl _) _⟩

set_option maxHeartbeats 1000000 in
theorem rat_form (w : World) (b off len cap i : Nat) (c k : Int) (hcap : cap ≤ 9223372036854775807) (hlen : len ≤ cap) (hi : i < len) (hc : 0 ≤ c ∧ c ≤ 255) (hb : b < w.heap.size)
    (hcell : w.cell? ⟨b, off + i, none⟩ = some (.int .u8 c)) (hk : longM c = k) (hk2 : (len : Int) - i < k) :
    Calls Tryd.prog 13 #[.slice (some ⟨b, off, none⟩) len cap, .int .i64 i] w (RetE (⟨0, 0, 0, 0⟩, 5) w) := by
  have HK := Lib.hid hk
  clear hk
  go_enter Tryd.func13, Tryd.ntmps13
  go_wp2_with fail
  refine (long_any c _ hc).mono ?_
  rintro e w' ⟨rfl, rfl⟩
  rw [HK.out]
  go_wp2
  exact bodyPost_ret (results_cell_tmp Tryd.results13 _ _ w.heap.size 25 _ (0, 0) _ rfl (Blk.new w 25 _) Tryd.underlying25 rfl size25) rfl ⟨rfl, (Below.refl _ w).alloc (Nat.le_refl _) _⟩

set_option maxRecDepth 100000 in
set_option maxHeartbeats 2000000 in
theorem rat_one (w : World) (b off len cap i : Nat) (c : Int) (hcap : cap ≤ 9223372036854775807) (hlen : len ≤ cap) (hi : i < len) (hc : 0 ≤ c ∧ c ≤ 255) (hb : b < w.heap.size)
    (hcell : w.cell? ⟨b, off + i, none⟩ = some (.int .u8 c)) (hk : longM c = 1) (hl1 : (oneM c).1.l = 1) :
    Calls Tryd.prog 13 #[.slice (some ⟨b, off, none⟩) len cap, .int .i64 i] w (RetE ((oneM c).1, 0) w) := by
  have HK := Lib.hid hk
  have HL := Lib.hid hl1
  clear hk hl1
  have b1 := Blk.new w 25 #[.int .i64 0, .int .i64 0, .int .i64 0, .int .i64 0]
  have hb1 := (Below.refl w.heap.size w).alloc (Nat.le_refl _) (.cells #[.int .i64 0, .int .i64 0, .int .i64 0, .int .i64 0] 25)
  go_enter Tryd.func13, Tryd.ntmps13
  go_wp2_with fail
  refine (long_any c _ hc).mono ?_
  rintro e w' ⟨rfl, rfl⟩
  rw [HK.out]
  go_wp2_with fail
  refine (short_any c _ hc).mono ?_
  rintro e w2 ⟨rfl, hb2⟩
  have b2 := b1.keep hb2
  have hb2' := hb1.trans (hb2.mono (by simp))
  have hlt := b2.lt
  have f2 := b2.frozen
  have c0 := b2.cell 0
  have c1 := b2.cell 1
  have c2 := b2.cell 2
  have c3 := b2.cell 3
  simp at c0 c1 c2 c3
  clear hb2 b1 hb1 hcell
  go_wp2
  have b3 := (b2.set4 (.int .i64 (oneM c).1.k) (.int .i64 (oneM c).1.n) (.int .i64 (oneM c).1.m) (.int .i64 1)).alloc (.cells #[.int .i64 (oneM c).1.k, .int .i64 (oneM c).1.n, .int .i64 (oneM c).1.m, .int .i64 1] 25)
  refine bodyPost_ret (results_cell_tmp Tryd.results13 _ _ w.heap.size 25 _ (0, 0) _ rfl b3 Tryd.underlying25 rfl size25) rfl ⟨?_, (below_set4 hb2' (Nat.le_refl _) _ _ _ _).alloc (by simp [World.setCell]; omega) _⟩
  show _ = Ending.returned (.tuple #[.agg #[.int .i64 (oneM c).1.k, .int .i64 (oneM c).1.n, .int .i64 (oneM c).1.m, .int .i64 (oneM c).1.l], .int .i64 0])
  rw [HL.out]
  rfl
end Go.Proofs.YtdbignfpmpohiaaDoor
