/-
  The contract of code.one.
-/
import Derived.Test.YtdbignfpmpohiaaDoorCod
namespace Go.Proofs.YtdbignfpmpohiaaDoor
open Go.RowKit

/-- the j-th span -/
def spanAt : Nat → Int × Int
  | 0 => (0, 15) | 1 => (16, 31) | 2 => (32, 63) | 3 => (64, 95) | 4 => (96, 103) | 5 => (104, 111) | 6 => (176, 191) | _ => (192, 207)
/-- it is in none of the first j spans -/
def past (j : Nat) (c : Int) : Prop := ∀ i, i < j → ¬ ((spanAt i).1 ≤ c ∧ c ≤ (spanAt i).2)
theorem past_next {j : Nat} {c : Int} (h : past j c) (h2 : ¬ ((spanAt j).1 ≤ c ∧ c ≤ (spanAt j).2)) : past (j + 1) c := by
  intro i hi
  rcases Nat.lt_or_ge i j with e | e
  · exact h i e
  · obtain rfl : i = j := by omega
    exact h2
def lowOf : Nat → Int
  | 0 => 0 | 1 => 16 | 2 => 32 | 3 => 64 | 4 => 96 | 5 => 104 | _ => 112
theorem past_low {j : Nat} {c : Int} (h : past j c) (h0 : 0 ≤ c) (hj : j ≤ 6) : lowOf j ≤ c := by
  match j, hj with
  | 0, _ => simp only [lowOf]; exact h0
  | 1, _ => have a := h 0 (by omega); simp only [spanAt] at a; simp only [lowOf]; omega
  | 2, _ => have a := h 0 (by omega); have b := h 1 (by omega); simp only [spanAt] at a b; simp only [lowOf]; omega
  | 3, _ => have a := h 0 (by omega); have b := h 1 (by omega); have d := h 2 (by omega); simp only [spanAt] at a b d; simp only [lowOf]; omega
  | 4, _ => have a := h 0 (by omega); have b := h 1 (by omega); have d := h 2 (by omega); have e := h 3 (by omega); simp only [spanAt] at a b d e; simp only [lowOf]; omega
  | 5, _ => have a := h 0 (by omega); have b := h 1 (by omega); have d := h 2 (by omega); have e := h 3 (by omega); have f := h 4 (by omega); simp only [spanAt] at a b d e f; simp only [lowOf]; omega
  | 6, _ => have a := h 0 (by omega); have b := h 1 (by omega); have d := h 2 (by omega); have e := h 3 (by omega); have f := h 4 (by omega); have g := h 5 (by omega); simp only [spanAt] at a b d e f g; simp only [lowOf]; omega

theorem pick0 (w : World) : (Instr.index 58 (.agg spansA) (.int .i64 0)).run Tryd.prog w = .ok (.agg #[.int .i64 0, .int .i64 15, .int .i64 1]) w := by kernel_rfl
theorem pick1 (w : World) : (Instr.index 58 (.agg spansA) (.int .i64 1)).run Tryd.prog w = .ok (.agg #[.int .i64 16, .int .i64 31, .int .i64 2]) w := by kernel_rfl
theorem pick2 (w : World) : (Instr.index 58 (.agg spansA) (.int .i64 2)).run Tryd.prog w = .ok (.agg #[.int .i64 32, .int .i64 63, .int .i64 3]) w := by kernel_rfl
theorem pick3 (w : World) : (Instr.index 58 (.agg spansA) (.int .i64 3)).run Tryd.prog w = .ok (.agg #[.int .i64 64, .int .i64 95, .int .i64 4]) w := by kernel_rfl
theorem pick4 (w : World) : (Instr.index 58 (.agg spansA) (.int .i64 4)).run Tryd.prog w = .ok (.agg #[.int .i64 96, .int .i64 103, .int .i64 8]) w := by kernel_rfl
theorem pick5 (w : World) : (Instr.index 58 (.agg spansA) (.int .i64 5)).run Tryd.prog w = .ok (.agg #[.int .i64 104, .int .i64 111, .int .i64 9]) w := by kernel_rfl
theorem pick6 (w : World) : (Instr.index 58 (.agg spansA) (.int .i64 6)).run Tryd.prog w = .ok (.agg #[.int .i64 176, .int .i64 191, .int .i64 25]) w := by kernel_rfl
theorem pick7 (w : World) : (Instr.index 58 (.agg spansA) (.int .i64 7)).run Tryd.prog w = .ok (.agg #[.int .i64 192, .int .i64 207, .int .i64 26]) w := by kernel_rfl

theorem results_cell_tmp {P : Program} {fn : Func} {p q : Tmp} {ty : TypeId} (h : fn.results = #[.cell p ty, .tmp q]) (tmps : Array Value) (w : World) (g : Nat) (t : TypeId) (cs : Array Value) (fr : Nat × Nat) (d : TypeDesc)
    (hp : tmps.getD p undef = .pointer (some ⟨g, 0, none⟩)) (hg : w.heap[g]? = some (.cells cs t fr))
    (hu : P.underlying ty = some d) (hd : (match d with | .struct _ | .array _ _ => true | _ => false) = true) (hi : (P.info? ty).map (·.size) = some cs.size) :
    (results fn tmps).run P w = .ok (.tuple #[.agg cs, tmps.getD q undef]) w := by
  have hp' : tmps[p]?.getD undef = .pointer (some ⟨g, 0, none⟩) := by simpa using hp
  simp [results, h, hp', asAddr, run_loadVar_row w g t ty cs fr d hg hu hd hi]

theorem Blk.set4 {w : World} {g : Nat} {t : TypeId} {x0 x1 x2 x3 : Value} (h : Blk w g t #[x0, x1, x2, x3]) (a b c d : Value) :
    Blk ((((w.setCell ⟨g, 0, none⟩ a).setCell ⟨g, 1, none⟩ b).setCell ⟨g, 2, none⟩ c).setCell ⟨g, 3, none⟩ d) g t #[a, b, c, d] := by
  simpa using (((h.set_ 0 a).set_ 1 b).set_ 2 c).set_ 3 d
theorem below_set4 {B : Nat} {a w : World} (h : Below B a w) {g : Nat} (hg : B ≤ g) (p q r s : Value) :
    Below B a ((((w.setCell ⟨g, 0, none⟩ p).setCell ⟨g, 1, none⟩ q).setCell ⟨g, 2, none⟩ r).setCell ⟨g, 3, none⟩ s) :=
  (((h.setCell (p := ⟨g, 0, none⟩) hg _).setCell (p := ⟨g, 1, none⟩) hg _).setCell (p := ⟨g, 2, none⟩) hg _).setCell (p := ⟨g, 3, none⟩) hg _
theorem size25 : (Tryd.prog.info? 25).map (·.size) = some 4 := by kernel_rfl

set_option maxRecDepth 100000 in
set_option maxHeartbeats 8000000 in
theorem one_any (c : Int) (w : World) (ht : Tabs w) (h : 0 ≤ c ∧ c ≤ 255) :
    Calls Tryd.prog 22 #[.int .i64 c] w (Ret2 (oneM c) w) := by
  obtain ⟨⟨t0, fr0, hg0⟩, _⟩ := ht
  obtain ⟨A, hA⟩ : ∃ A, A = spansA := ⟨_, rfl⟩
  rw [← hA] at hg0
  have hsz : (Tryd.prog.info? 58).map (·.size) = some A.size := by rw [hA]; kernel_rfl
  have hlt : 0 < w.heap.size := (Array.getElem?_eq_some_iff.1 hg0).1
  have p0 := fun W => pick0 W
  have p1 := fun W => pick1 W
  have p2 := fun W => pick2 W
  have p3 := fun W => pick3 W
  have p4 := fun W => pick4 W
  have p5 := fun W => pick5 W
  have p6 := fun W => pick6 W
  have p7 := fun W => pick7 W
  rw [← hA] at p0 p1 p2 p3 p4 p5 p6 p7
  have P := Lib.hid (And.intro p0 (And.intro p1 (And.intro p2 (And.intro p3 (And.intro p4 (And.intro p5 (And.intro p6 p7)))))))
  have hgw : ((w.alloc (.cells #[.int .i64 0, .int .i64 0, .int .i64 0, .int .i64 0] 25))).heap[0]? = some (.cells A t0 fr0) := (Below.heap_alloc w _ 0 hlt).trans hg0
  have HGW := Lib.hid hgw
  have HSZ := Lib.hid hsz
  clear hA hsz hgw hg0 p0 p1 p2 p3 p4 p5 p6 p7
  go_enter Tryd.func22, Tryd.ntmps22
  go_wp2_with (refine wpList_load_row rfl 58 _ rfl 0 rfl t0 A fr0 _ HGW.out Tryd.underlying58 rfl HSZ.out ?_)
  clear HGW HSZ
  obtain ⟨w0, hw0⟩ : ∃ w0, w0 = w.alloc (.cells #[.int .i64 0, .int .i64 0, .int .i64 0, .int .i64 0] 25) := ⟨_, rfl⟩
  have b0 : Blk w0 w.heap.size 25 #[.int .i64 0, .int .i64 0, .int .i64 0, .int .i64 0] := by rw [hw0]; exact Blk.new w 25 _
  have hb0 : Below w.heap.size w w0 := by rw [hw0]; exact (Below.refl _ w).alloc (Nat.le_refl _) _
  rw [← hw0]
  clear hw0
  go_loopg [8] 8 (fun g s8 wr => ∃ j : Nat, j + g = 8 ∧ s8 = .int .i64 j ∧ Aside (past j c) ∧ Blk wr w.heap.size 25 #[.int .i64 0, .int .i64 0, .int .i64 0, .int .i64 0] ∧ Below w.heap.size w wr)
  case atStart => exact ⟨0, rfl, rfl, fun i hi => absurd hi (by omega), b0, hb0⟩
  case round =>
    clear b0 hb0
    obtain ⟨j, hj, rfl, hp, b1, hb1⟩ := hrel
    have hsz1 := b1.lt
    have f1 := b1.frozen
    have c0 := b1.cell 0
    have c1 := b1.cell 1
    have c2 := b1.cell 2
    have c3 := b1.cell 3
    simp at c0 c1 c2 c3
    cases gk with
    | zero =>
      obtain rfl : j = 8 := by omega
      have hl := past_low (fun i hi => hp.out i (by omega)) h.1 (Nat.le_refl 6)
      have h6 := hp.out 6 (by omega)
      have h7 := hp.out 7 (by omega)
      simp only [spanAt, lowOf] at hl h6 h7
      clear P
      have hcut : c = 112 ∨ (112 < c ∧ c < 120) ∨ c = 120 ∨ (120 < c ∧ c < 124) ∨ c = 124 ∨ c = 125 ∨ (126 ≤ c ∧ c < 128) ∨ (128 ≤ c ∧ c < 135) ∨ (135 ≤ c ∧ c ≤ 137) ∨ (138 ≤ c ∧ c < 144) ∨ (144 ≤ c ∧ c < 152) ∨ (152 ≤ c ∧ c < 160) ∨ (160 ≤ c ∧ c < 176) ∨ 208 ≤ c := by omega
      clear h6 h7 hl hp
      rcases hcut with rfl | h1 | rfl | h1 | rfl | rfl | h1 | h1 | h1 | h1 | h1 | h1 | h1 | h1
      · go_wp2
        have b2 := (b1.set4 (.int .i64 11) (.int .i64 0) (.int .i64 0) (.int .i64 1)).alloc (.cells #[.int .i64 11, .int .i64 0, .int .i64 0, .int .i64 1] 25)
        refine bodyPost_ret (results_cell_tmp Tryd.results22 _ _ w.heap.size 25 _ (0, 0) _ rfl b2 Tryd.underlying25 rfl size25) rfl ⟨?_, ?_⟩
        · have e : oneM 112 = (⟨11, 0, 0, 1⟩, true) := by unfold oneM; (repeat (first | rw [if_pos (by omega)] | rw [if_neg (by omega)]))
          rw [e]; rfl
        · exact (below_set4 hb1 (Nat.le_refl _) _ _ _ _).alloc (by simp [World.setCell]; omega) _
      · go_wp2_with (go_at_call 29; refine (const_any _ _ (by omega)).mono ?_; rintro e w2 ⟨rfl, rfl⟩)
        have b2 := (b1.set4 (.int .i64 12) (.int .i64 (constM (c - 112))) (.int .i64 0) (.int .i64 1)).alloc (.cells #[.int .i64 12, .int .i64 (constM (c - 112)), .int .i64 0, .int .i64 1] 25)
        refine bodyPost_ret (results_cell_tmp Tryd.results22 _ _ w.heap.size 25 _ (0, 0) _ rfl b2 Tryd.underlying25 rfl size25) rfl ⟨?_, ?_⟩
        · have e : oneM c = (⟨12, (constM (c - 112)), 0, 1⟩, true) := by unfold oneM; (repeat (first | rw [if_pos (by omega)] | rw [if_neg (by omega)]))
          rw [e]; rfl
        · exact (below_set4 hb1 (Nat.le_refl _) _ _ _ _).alloc (by simp [World.setCell]; omega) _
      · go_wp2
        have b2 := (b1.set4 (.int .i64 13) (.int .i64 0) (.int .i64 0) (.int .i64 1)).alloc (.cells #[.int .i64 13, .int .i64 0, .int .i64 0, .int .i64 1] 25)
        refine bodyPost_ret (results_cell_tmp Tryd.results22 _ _ w.heap.size 25 _ (0, 0) _ rfl b2 Tryd.underlying25 rfl size25) rfl ⟨?_, ?_⟩
        · have e : oneM 120 = (⟨13, 0, 0, 1⟩, true) := by unfold oneM; (repeat (first | rw [if_pos (by omega)] | rw [if_neg (by omega)]))
          rw [e]; rfl
        · exact (below_set4 hb1 (Nat.le_refl _) _ _ _ _).alloc (by simp [World.setCell]; omega) _
      · go_wp2_with (go_at_call 29; refine (const_any _ _ (by omega)).mono ?_; rintro e w2 ⟨rfl, rfl⟩)
        have b2 := (b1.set4 (.int .i64 14) (.int .i64 (constM (c - 120))) (.int .i64 0) (.int .i64 1)).alloc (.cells #[.int .i64 14, .int .i64 (constM (c - 120)), .int .i64 0, .int .i64 1] 25)
        refine bodyPost_ret (results_cell_tmp Tryd.results22 _ _ w.heap.size 25 _ (0, 0) _ rfl b2 Tryd.underlying25 rfl size25) rfl ⟨?_, ?_⟩
        · have e : oneM c = (⟨14, (constM (c - 120)), 0, 1⟩, true) := by unfold oneM; (repeat (first | rw [if_pos (by omega)] | rw [if_neg (by omega)]))
          rw [e]; rfl
        · exact (below_set4 hb1 (Nat.le_refl _) _ _ _ _).alloc (by simp [World.setCell]; omega) _
      · go_wp2
        have b2 := (b1.set4 (.int .i64 15) (.int .i64 0) (.int .i64 0) (.int .i64 1)).alloc (.cells #[.int .i64 15, .int .i64 0, .int .i64 0, .int .i64 1] 25)
        refine bodyPost_ret (results_cell_tmp Tryd.results22 _ _ w.heap.size 25 _ (0, 0) _ rfl b2 Tryd.underlying25 rfl size25) rfl ⟨?_, ?_⟩
        · have e : oneM 124 = (⟨15, 0, 0, 1⟩, true) := by unfold oneM; (repeat (first | rw [if_pos (by omega)] | rw [if_neg (by omega)])); rfl
          rw [e]; rfl
        · exact (below_set4 hb1 (Nat.le_refl _) _ _ _ _).alloc (by simp [World.setCell]; omega) _
      · go_wp2
        have b2 := (b1.set4 (.int .i64 16) (.int .i64 0) (.int .i64 0) (.int .i64 1)).alloc (.cells #[.int .i64 16, .int .i64 0, .int .i64 0, .int .i64 1] 25)
        refine bodyPost_ret (results_cell_tmp Tryd.results22 _ _ w.heap.size 25 _ (0, 0) _ rfl b2 Tryd.underlying25 rfl size25) rfl ⟨?_, ?_⟩
        · have e : oneM 125 = (⟨16, 0, 0, 1⟩, true) := by unfold oneM; (repeat (first | rw [if_pos (by omega)] | rw [if_neg (by omega)])); rfl
          rw [e]; rfl
        · exact (below_set4 hb1 (Nat.le_refl _) _ _ _ _).alloc (by simp [World.setCell]; omega) _
      · have e4 : (c == 124) = false := by simp; omega
        have e5 : (c == 125) = false := by simp; omega
        go_wp2
        have b2 := (b1.set4 (.int .i64 0) (.int .i64 0) (.int .i64 0) (.int .i64 1)).alloc (.cells #[.int .i64 0, .int .i64 0, .int .i64 0, .int .i64 1] 25)
        refine bodyPost_ret (results_cell_tmp Tryd.results22 _ _ w.heap.size 25 _ (0, 0) _ rfl b2 Tryd.underlying25 rfl size25) rfl ⟨?_, ?_⟩
        · have e : oneM c = (⟨0, 0, 0, 1⟩, true) := by unfold oneM; (repeat (first | rw [if_pos (by omega)] | rw [if_neg (by omega)])); simp; omega
          rw [e]; rfl
        · exact (below_set4 hb1 (Nat.le_refl _) _ _ _ _).alloc (by simp [World.setCell]; omega) _
      · have e4 : (c == 124) = false := by simp; omega
        have e5 : (c == 125) = false := by simp; omega
        have e6 : decide (c < 128) = false := by simp; omega
        have e7 : decide (175 < c) = false := by simp; omega
        go_wp2
        have b2 := (b1.set4 (.int .i64 0) (.int .i64 0) (.int .i64 0) (.int .i64 1)).alloc (.cells #[.int .i64 0, .int .i64 0, .int .i64 0, .int .i64 1] 25)
        refine bodyPost_ret (results_cell_tmp Tryd.results22 _ _ w.heap.size 25 _ (0, 0) _ rfl b2 Tryd.underlying25 rfl size25) rfl ⟨?_, ?_⟩
        · have e : oneM c = (⟨0, 0, 0, 1⟩, false) := by unfold oneM; (repeat (first | rw [if_pos (by omega)] | rw [if_neg (by omega)])); simp; omega
          rw [e]; rfl
        · exact (below_set4 hb1 (Nat.le_refl _) _ _ _ _).alloc (by simp [World.setCell]; omega) _
      · have e4 : (c == 124) = false := by simp; omega
        have e5 : (c == 125) = false := by simp; omega
        go_wp2
        have b2 := (b1.set4 (.int .i64 (19 + c - 135)) (.int .i64 0) (.int .i64 0) (.int .i64 1)).alloc (.cells #[.int .i64 (19 + c - 135), .int .i64 0, .int .i64 0, .int .i64 1] 25)
        refine bodyPost_ret (results_cell_tmp Tryd.results22 _ _ w.heap.size 25 _ (0, 0) _ rfl b2 Tryd.underlying25 rfl size25) rfl ⟨?_, ?_⟩
        · have e : oneM c = (⟨(19 + c - 135), 0, 0, 1⟩, true) := by unfold oneM; (repeat (first | rw [if_pos (by omega)] | rw [if_neg (by omega)]))
          rw [e]; rfl
        · exact (below_set4 hb1 (Nat.le_refl _) _ _ _ _).alloc (by simp [World.setCell]; omega) _
      · have e4 : (c == 124) = false := by simp; omega
        have e5 : (c == 125) = false := by simp; omega
        have e6 : decide (c < 128) = false := by simp; omega
        have e7 : decide (175 < c) = false := by simp; omega
        have e8 : decide (c < 144) = true := by simp; omega
        go_wp2
        have b2 := (b1.set4 (.int .i64 0) (.int .i64 0) (.int .i64 0) (.int .i64 1)).alloc (.cells #[.int .i64 0, .int .i64 0, .int .i64 0, .int .i64 1] 25)
        refine bodyPost_ret (results_cell_tmp Tryd.results22 _ _ w.heap.size 25 _ (0, 0) _ rfl b2 Tryd.underlying25 rfl size25) rfl ⟨?_, ?_⟩
        · have e : oneM c = (⟨0, 0, 0, 1⟩, true) := by unfold oneM; (repeat (first | rw [if_pos (by omega)] | rw [if_neg (by omega)])); simp; omega
          rw [e]; rfl
        · exact (below_set4 hb1 (Nat.le_refl _) _ _ _ _).alloc (by simp [World.setCell]; omega) _
      · have e4 : (c == 124) = false := by simp; omega
        have e5 : (c == 125) = false := by simp; omega
        go_wp2
        have b2 := (b1.set4 (.int .i64 22) (.int .i64 (c - 143)) (.int .i64 0) (.int .i64 1)).alloc (.cells #[.int .i64 22, .int .i64 (c - 143), .int .i64 0, .int .i64 1] 25)
        refine bodyPost_ret (results_cell_tmp Tryd.results22 _ _ w.heap.size 25 _ (0, 0) _ rfl b2 Tryd.underlying25 rfl size25) rfl ⟨?_, ?_⟩
        · have e : oneM c = (⟨22, (c - 143), 0, 1⟩, true) := by unfold oneM; (repeat (first | rw [if_pos (by omega)] | rw [if_neg (by omega)]))
          rw [e]; rfl
        · exact (below_set4 hb1 (Nat.le_refl _) _ _ _ _).alloc (by simp [World.setCell]; omega) _
      · have e4 : (c == 124) = false := by simp; omega
        have e5 : (c == 125) = false := by simp; omega
        go_wp2
        have b2 := (b1.set4 (.int .i64 24) (.int .i64 (c - 151)) (.int .i64 0) (.int .i64 1)).alloc (.cells #[.int .i64 24, .int .i64 (c - 151), .int .i64 0, .int .i64 1] 25)
        refine bodyPost_ret (results_cell_tmp Tryd.results22 _ _ w.heap.size 25 _ (0, 0) _ rfl b2 Tryd.underlying25 rfl size25) rfl ⟨?_, ?_⟩
        · have e : oneM c = (⟨24, (c - 151), 0, 1⟩, true) := by unfold oneM; (repeat (first | rw [if_pos (by omega)] | rw [if_neg (by omega)]))
          rw [e]; rfl
        · exact (below_set4 hb1 (Nat.le_refl _) _ _ _ _).alloc (by simp [World.setCell]; omega) _
      · have e4 : (c == 124) = false := by simp; omega
        have e5 : (c == 125) = false := by simp; omega
        have e6 : decide (c < 128) = false := by simp; omega
        have e7 : decide (175 < c) = false := by simp; omega
        have e8 : decide (c < 144) = false := by simp; omega
        go_wp2
        have b2 := (b1.set4 (.int .i64 0) (.int .i64 0) (.int .i64 0) (.int .i64 1)).alloc (.cells #[.int .i64 0, .int .i64 0, .int .i64 0, .int .i64 1] 25)
        refine bodyPost_ret (results_cell_tmp Tryd.results22 _ _ w.heap.size 25 _ (0, 0) _ rfl b2 Tryd.underlying25 rfl size25) rfl ⟨?_, ?_⟩
        · have e : oneM c = (⟨0, 0, 0, 1⟩, false) := by unfold oneM; (repeat (first | rw [if_pos (by omega)] | rw [if_neg (by omega)])); simp; omega
          rw [e]; rfl
        · exact (below_set4 hb1 (Nat.le_refl _) _ _ _ _).alloc (by simp [World.setCell]; omega) _
      · have e4 : (c == 124) = false := by simp; omega
        have e5 : (c == 125) = false := by simp; omega
        go_wp2
        have b2 := (b1.set4 (.int .i64 17) (.int .i64 (c % 16)) (.int .i64 ((c - 208) / 16)) (.int .i64 1)).alloc (.cells #[.int .i64 17, .int .i64 (c % 16), .int .i64 ((c - 208) / 16), .int .i64 1] 25)
        refine bodyPost_ret (results_cell_tmp Tryd.results22 _ _ w.heap.size 25 _ (0, 0) _ rfl b2 Tryd.underlying25 rfl size25) rfl ⟨?_, ?_⟩
        · have e : oneM c = (⟨17, (c % 16), ((c - 208) / 16), 1⟩, true) := by unfold oneM; (repeat (first | rw [if_pos (by omega)] | rw [if_neg (by omega)]))
          rw [e]; rfl
        · exact (below_set4 hb1 (Nat.le_refl _) _ _ _ _).alloc (by simp [World.setCell]; omega) _    | succ g =>
      have hj8 : j = 0 ∨ j = 1 ∨ j = 2 ∨ j = 3 ∨ j = 4 ∨ j = 5 ∨ j = 6 ∨ j = 7 := by omega
      rcases hj8 with rfl | rfl | rfl | rfl | rfl | rfl | rfl | rfl
      · have pk := P.out.1
        clear P
        have hl := past_low hp.out h.1 (by omega)
        simp only [lowOf] at hl
        by_cases h1 : c ≤ 15
        · go_wp2
          have b2 := (b1.set4 (.int .i64 1) (.int .i64 c) (.int .i64 0) (.int .i64 1)).alloc (.cells #[.int .i64 0, .int .i64 15, .int .i64 1] 57)
          refine bodyPost_ret (results_cell_tmp Tryd.results22 _ _ w.heap.size 25 _ (0, 0) _ rfl b2 Tryd.underlying25 rfl size25) rfl ⟨?_, ?_⟩
          · have e : oneM c = (⟨1, c, 0, 1⟩, true) := by unfold oneM; repeat (first | rw [if_pos (by omega)] | rw [if_neg (by omega)])
            rw [e]; rfl
          · exact (below_set4 hb1 (Nat.le_refl _) _ _ _ _).alloc (by simp [World.setCell]; omega) _
        · go_wp2
          go_roundg g
          case measure => omega
          case rel => exact ⟨1, by omega, by go_num, past_next hp.out (by simp only [spanAt]; omega), b1.alloc _, hb1.alloc (by omega) _⟩
      · have pk := P.out.2.1
        clear P
        have hl := past_low hp.out h.1 (by omega)
        simp only [lowOf] at hl
        by_cases h1 : c ≤ 31
        · have h2 : 16 ≤ c := by omega
          go_wp2
          have b2 := (b1.set4 (.int .i64 2) (.int .i64 (c - 16)) (.int .i64 0) (.int .i64 1)).alloc (.cells #[.int .i64 16, .int .i64 31, .int .i64 2] 57)
          refine bodyPost_ret (results_cell_tmp Tryd.results22 _ _ w.heap.size 25 _ (0, 0) _ rfl b2 Tryd.underlying25 rfl size25) rfl ⟨?_, ?_⟩
          · have e : oneM c = (⟨2, c - 16, 0, 1⟩, true) := by unfold oneM; repeat (first | rw [if_pos (by omega)] | rw [if_neg (by omega)])
            rw [e]; rfl
          · exact (below_set4 hb1 (Nat.le_refl _) _ _ _ _).alloc (by simp [World.setCell]; omega) _
        · go_wp2
          go_roundg g
          case measure => omega
          case rel => exact ⟨2, by omega, by go_num, past_next hp.out (by simp only [spanAt]; omega), b1.alloc _, hb1.alloc (by omega) _⟩
      · have pk := P.out.2.2.1
        clear P
        have hl := past_low hp.out h.1 (by omega)
        simp only [lowOf] at hl
        by_cases h1 : c ≤ 63
        · have h2 : 32 ≤ c := by omega
          go_wp2
          have b2 := (b1.set4 (.int .i64 3) (.int .i64 (c - 32)) (.int .i64 0) (.int .i64 1)).alloc (.cells #[.int .i64 32, .int .i64 63, .int .i64 3] 57)
          refine bodyPost_ret (results_cell_tmp Tryd.results22 _ _ w.heap.size 25 _ (0, 0) _ rfl b2 Tryd.underlying25 rfl size25) rfl ⟨?_, ?_⟩
          · have e : oneM c = (⟨3, c - 32, 0, 1⟩, true) := by unfold oneM; repeat (first | rw [if_pos (by omega)] | rw [if_neg (by omega)])
            rw [e]; rfl
          · exact (below_set4 hb1 (Nat.le_refl _) _ _ _ _).alloc (by simp [World.setCell]; omega) _
        · go_wp2
          go_roundg g
          case measure => omega
          case rel => exact ⟨3, by omega, by go_num, past_next hp.out (by simp only [spanAt]; omega), b1.alloc _, hb1.alloc (by omega) _⟩
      · have pk := P.out.2.2.2.1
        clear P
        have hl := past_low hp.out h.1 (by omega)
        simp only [lowOf] at hl
        by_cases h1 : c ≤ 95
        · have h2 : 64 ≤ c := by omega
          go_wp2
          have b2 := (b1.set4 (.int .i64 4) (.int .i64 (c - 64)) (.int .i64 0) (.int .i64 1)).alloc (.cells #[.int .i64 64, .int .i64 95, .int .i64 4] 57)
          refine bodyPost_ret (results_cell_tmp Tryd.results22 _ _ w.heap.size 25 _ (0, 0) _ rfl b2 Tryd.underlying25 rfl size25) rfl ⟨?_, ?_⟩
          · have e : oneM c = (⟨4, c - 64, 0, 1⟩, true) := by unfold oneM; repeat (first | rw [if_pos (by omega)] | rw [if_neg (by omega)])
            rw [e]; rfl
          · exact (below_set4 hb1 (Nat.le_refl _) _ _ _ _).alloc (by simp [World.setCell]; omega) _
        · go_wp2
          go_roundg g
          case measure => omega
          case rel => exact ⟨4, by omega, by go_num, past_next hp.out (by simp only [spanAt]; omega), b1.alloc _, hb1.alloc (by omega) _⟩
      · have pk := P.out.2.2.2.2.1
        clear P
        have hl := past_low hp.out h.1 (by omega)
        simp only [lowOf] at hl
        by_cases h1 : c ≤ 103
        · have h2 : 96 ≤ c := by omega
          go_wp2
          have b2 := (b1.set4 (.int .i64 8) (.int .i64 (c - 96)) (.int .i64 0) (.int .i64 1)).alloc (.cells #[.int .i64 96, .int .i64 103, .int .i64 8] 57)
          refine bodyPost_ret (results_cell_tmp Tryd.results22 _ _ w.heap.size 25 _ (0, 0) _ rfl b2 Tryd.underlying25 rfl size25) rfl ⟨?_, ?_⟩
          · have e : oneM c = (⟨8, c - 96, 0, 1⟩, true) := by unfold oneM; repeat (first | rw [if_pos (by omega)] | rw [if_neg (by omega)])
            rw [e]; rfl
          · exact (below_set4 hb1 (Nat.le_refl _) _ _ _ _).alloc (by simp [World.setCell]; omega) _
        · go_wp2
          go_roundg g
          case measure => omega
          case rel => exact ⟨5, by omega, by go_num, past_next hp.out (by simp only [spanAt]; omega), b1.alloc _, hb1.alloc (by omega) _⟩
      · have pk := P.out.2.2.2.2.2.1
        clear P
        have hl := past_low hp.out h.1 (by omega)
        simp only [lowOf] at hl
        by_cases h1 : c ≤ 111
        · have h2 : 104 ≤ c := by omega
          go_wp2
          have b2 := (b1.set4 (.int .i64 9) (.int .i64 (c - 104)) (.int .i64 0) (.int .i64 1)).alloc (.cells #[.int .i64 104, .int .i64 111, .int .i64 9] 57)
          refine bodyPost_ret (results_cell_tmp Tryd.results22 _ _ w.heap.size 25 _ (0, 0) _ rfl b2 Tryd.underlying25 rfl size25) rfl ⟨?_, ?_⟩
          · have e : oneM c = (⟨9, c - 104, 0, 1⟩, true) := by unfold oneM; repeat (first | rw [if_pos (by omega)] | rw [if_neg (by omega)])
            rw [e]; rfl
          · exact (below_set4 hb1 (Nat.le_refl _) _ _ _ _).alloc (by simp [World.setCell]; omega) _
        · go_wp2
          go_roundg g
          case measure => omega
          case rel => exact ⟨6, by omega, by go_num, past_next hp.out (by simp only [spanAt]; omega), b1.alloc _, hb1.alloc (by omega) _⟩
      · have pk := P.out.2.2.2.2.2.2.1
        clear P
        have hl := past_low hp.out h.1 (by omega)
        simp only [lowOf] at hl
        by_cases h1 : c ≤ 191
        · by_cases h2 : 176 ≤ c
          · go_wp2
            have b2 := (b1.set4 (.int .i64 25) (.int .i64 (c - 176)) (.int .i64 0) (.int .i64 1)).alloc (.cells #[.int .i64 176, .int .i64 191, .int .i64 25] 57)
            refine bodyPost_ret (results_cell_tmp Tryd.results22 _ _ w.heap.size 25 _ (0, 0) _ rfl b2 Tryd.underlying25 rfl size25) rfl ⟨?_, ?_⟩
            · have e : oneM c = (⟨25, c - 176, 0, 1⟩, true) := by unfold oneM; repeat (first | rw [if_pos (by omega)] | rw [if_neg (by omega)])
              rw [e]; rfl
            · exact (below_set4 hb1 (Nat.le_refl _) _ _ _ _).alloc (by simp [World.setCell]; omega) _
          · go_wp2
            go_roundg g
            case measure => omega
            case rel => exact ⟨7, by omega, by go_num, past_next hp.out (by simp only [spanAt]; omega), b1.alloc _, hb1.alloc (by omega) _⟩
        · go_wp2
          go_roundg g
          case measure => omega
          case rel => exact ⟨7, by omega, by go_num, past_next hp.out (by simp only [spanAt]; omega), b1.alloc _, hb1.alloc (by omega) _⟩
      · have pk := P.out.2.2.2.2.2.2.2
        clear P
        have hl := past_low (j := 6) (fun i hi => hp.out i (by omega)) h.1 (by omega)
        simp only [lowOf] at hl
        by_cases h1 : c ≤ 207
        · by_cases h2 : 192 ≤ c
          · go_wp2
            have b2 := (b1.set4 (.int .i64 26) (.int .i64 (c - 192)) (.int .i64 0) (.int .i64 1)).alloc (.cells #[.int .i64 192, .int .i64 207, .int .i64 26] 57)
            refine bodyPost_ret (results_cell_tmp Tryd.results22 _ _ w.heap.size 25 _ (0, 0) _ rfl b2 Tryd.underlying25 rfl size25) rfl ⟨?_, ?_⟩
            · have e : oneM c = (⟨26, c - 192, 0, 1⟩, true) := by unfold oneM; repeat (first | rw [if_pos (by omega)] | rw [if_neg (by omega)])
              rw [e]; rfl
            · exact (below_set4 hb1 (Nat.le_refl _) _ _ _ _).alloc (by simp [World.setCell]; omega) _
          · go_wp2
            go_roundg g
            case measure => omega
            case rel => exact ⟨8, by omega, by go_num, past_next hp.out (by simp only [spanAt]; omega), b1.alloc _, hb1.alloc (by omega) _⟩
        · go_wp2
          go_roundg g
          case measure => omega
          case rel => exact ⟨8, by omega, by go_num, past_next hp.out (by simp only [spanAt]; omega), b1.alloc _, hb1.alloc (by omega) _⟩
end Go.Proofs.YtdbignfpmpohiaaDoor
