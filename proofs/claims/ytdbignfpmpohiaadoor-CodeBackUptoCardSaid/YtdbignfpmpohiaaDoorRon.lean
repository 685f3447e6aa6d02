/-
  The contract of websterref12.one: it finds 'findM', too.
-/
import Derived.Test.YtdbignfpmpohiaaDoorTel
namespace Go.Proofs.YtdbignfpmpohiaaDoor
open Go.RowKit

/-- the second of two bytes, where the first one tells by two -/
def findS (S : Bool) (o : O4) (c : Int) (g : Nat) : Option Int := if S = true then none else find2n o c g
def orElse2 (c : Int) (r : Option Int) (rest : Option (Int × Int)) : Option (Int × Int) := match r with
  | some n => some (c, n)
  | none => rest
theorem findS_next (S : Bool) (o : O4) (c n : Int) (g : Nat) (h : 255 - (g : Int) = n) :
    findS S o c (g + 1) = if (!S && sameB (moreM c n 0) o) = true then some n else findS S o c g := by
  cases S
  · show find2n o c (g + 1) = if (!false && sameB (moreM c n 0) o) = true then some n else find2n o c g
    rw [find2n, h]
    rfl
  · rfl
theorem findS_zero (S : Bool) (o : O4) (c : Int) : findS S o c 0 = none := by cases S <;> rfl
theorem find2_next (o : O4) (c : Int) (g : Nat) (h : 175 - (g : Int) = c) :
    find2 o (g + 1) = orElse2 c (findS ((oneM c).2 || c == 132 || c == 134) o c 256) (find2 o g) := by
  rw [find2, h, findS]
  by_cases hS : ((oneM c).2 || c == 132 || c == 134) = true
  · rw [if_pos hS, if_pos hS]; rfl
  · rw [if_neg hS, if_neg hS]; rfl
theorem find3g_next (o : O4) (g : Nat) : find3g o (g + 1) =
    if (17 + (1 - (g : Int)) == o.k && (decide (0 ≤ o.n) && (decide (o.n < 256) && (decide (0 ≤ o.m) && decide (o.m < 256))))) = true then some [132 + 2 * (1 - (g : Int)), o.m, o.n] else find3g o g := rfl

/-- what one leaves -/
def OnePost (r : Option (List Int)) (w : World) (e : Ending) (w' : World) : Prop :=
  Below w.heap.size w w' ∧ ((r = none ∧ e = .returned (.tuple #[.slice none 0 0, .bool false])) ∨
    ∃ bs g, r = some bs ∧ e = .returned (.tuple #[.slice (some ⟨g, 0, none⟩) bs.length bs.length, .bool true]) ∧ w.heap.size ≤ g ∧ Blk w' g 5 (byteCells bs))

set_option maxRecDepth 100000 in
set_option maxHeartbeats 8000000 in
theorem rone_any (o : O4) (w : World) :
    Calls Tryd.prog 28 #[.agg #[.int .i64 o.k, .int .i64 o.n, .int .i64 o.m, .int .i64 o.l]] w (OnePost (findM o) w) := by
  have b0 := Blk.new w 25 #[.int .i64 o.k, .int .i64 o.n, .int .i64 o.m, .int .i64 o.l]
  have hb0 := (Below.refl w.heap.size w).alloc (Nat.le_refl _) (.cells #[.int .i64 o.k, .int .i64 o.n, .int .i64 o.m, .int .i64 o.l] 25)
  go_enter Tryd.func28, Tryd.ntmps28
  go_wp2
  go_loopg [4] 256 (fun g s3 wr => ∃ j : Nat, j + g = 256 ∧ s3 = .int .i64 j ∧ Blk wr w.heap.size 25 #[.int .i64 o.k, .int .i64 o.n, .int .i64 o.m, .int .i64 o.l] ∧ Below w.heap.size w wr ∧ Aside (findM o = then1 (find1 o g) o))
  case atStart => exact ⟨0, rfl, rfl, b0, hb0, rfl⟩
  case round =>
    clear b0 hb0
    obtain ⟨j, hj, rfl, b1, hb1, hf⟩ := hrel
    have hsz1 := hb1.size
    cases gk with
    | zero =>
      obtain rfl : j = 256 := by omega
      have hf1 : Aside (findM o = then2 (find2 o 48) o) := hf.out
      clear hf hj
      go_wp2
      go_loopg [5] 48 (fun g s4 wr => ∃ c : Int, c + g = 176 ∧ 128 ≤ c ∧ s4 = .int .i64 c ∧ Blk wr w.heap.size 25 #[.int .i64 o.k, .int .i64 o.n, .int .i64 o.m, .int .i64 o.l] ∧ Below w.heap.size w wr ∧ Aside (findM o = then2 (find2 o g) o))
      case atStart => exact ⟨128, rfl, by omega, rfl, b1, hb1, hf1⟩
      case round =>
        clear b1 hb1 hf1 hsz1
        obtain ⟨c, hc, hc128, rfl, b1, hb1, hf⟩ := hrel
        have hsz1 := hb1.size
        cases gk with
        | zero =>
          obtain rfl : c = 176 := by omega
          have hf1 : Aside (findM o = find3g o 2) := by show _ = _; rw [hf.out, find3g_eq]; rfl
          clear hf hc hc128
          go_wp2
          go_loopg [7] 2 (fun g s6 wr => g ≤ 2 ∧ s6 = .int .i64 (132 + 2 * (2 - (g : Int))) ∧ Blk wr w.heap.size 25 #[.int .i64 o.k, .int .i64 o.n, .int .i64 o.m, .int .i64 o.l] ∧ Below w.heap.size w wr ∧ Aside (findM o = find3g o g))
          case atStart => exact ⟨Nat.le_refl _, rfl, b1, hb1, hf1⟩
          case round =>
            clear b1 hb1 hf1 hsz1
            obtain ⟨hg2, rfl, b1, hb1, hf⟩ := hrel
            have hsz1 := hb1.size
            cases gk with
            | zero =>
              have hf1 : Aside (findM o = none) := hf.out
              clear hf
              go_wp2
              go_ret2
              exact ⟨hb1, Or.inl ⟨hf1.out, rfl⟩⟩
            | succ g =>
              obtain ⟨c, hcd⟩ : ∃ c, c = (132 : Int) + 2 * (1 - (g : Int)) := ⟨_, rfl⟩
              have hc3 : (132 : Int) + 2 * (2 - ((g + 1 : Nat) : Int)) = c := by omega
              have hcn : (132 : Int) + 2 * (2 - (g : Int)) = c + 2 := by omega
              have hg01 : g = 0 ∨ g = 1 := by omega
              have hcc : c = 132 ∨ c = 134 := by omega
              have hc0 : 0 ≤ c ∧ c ≤ 134 := by omega
              rw [hc3]
              have HCN := Lib.hid hcn
              have hf1 := hf.out
              rw [find3g_next, ← hcd] at hf1
              have hm3 := more3 g hg01 o
              rw [← hcd] at hm3
              have htl3 := tells3 c o.m o.n o hcc
              rw [hm3] at htl3
              clear hm3 hf hcn hc3 hcd hcc hg01
              obtain ⟨k, n, m, l⟩ := o
              simp only at hf1 htl3 b1 ⊢
              have c0 := b1.cell 0
              have c1 := b1.cell 1
              have c2 := b1.cell 2
              have c3 := b1.cell 3
              simp at c0 c1 c2 c3
              by_cases hok : 0 ≤ n ∧ n < 256 ∧ 0 ≤ m ∧ m < 256
              · obtain ⟨h1, h2, h3, h4⟩ := hok
                rw [decide_eq_true h1, decide_eq_true h2, decide_eq_true h3, decide_eq_true h4, Bool.and_true, Bool.and_true, Bool.and_true, Bool.and_true] at hf1
                have htl := tells_any (wr.alloc (.cells (byteCells [c, m, n]) 5)) (some ⟨wr.heap.size, 0, none⟩) [c, m, n] 3 ⟨k, n, m, l⟩ (by omega) (by simp) (Byts.of_blk (Blk.new wr 5 _) (by intro v hv; simp at hv; omega))
                rw [htl3] at htl
                have hb2 := hb1.alloc hsz1 (.cells (byteCells [c, m, n]) 5)
                have b2 := b1.alloc (.cells (byteCells [c, m, n]) 5)
                obtain ⟨T, hT⟩ : ∃ T, T = (17 + (1 - (g : Int)) == k) := ⟨_, rfl⟩
                rw [← hT] at htl hf1
                have e0 := fun o1 => (b1.alloc o1).cell 0
                have e1 := fun o1 => (b1.alloc o1).cell 1
                have e2 := fun o1 => (b1.alloc o1).cell 2
                have e3 := fun o1 => (b1.alloc o1).cell 3
                simp at e0 e1 e2 e3
                have HTL := Lib.hid htl
                have HF := Lib.hid hf1
                clear htl hf1 hT htl3
                cases T
                · have HF2 : Aside (findM ⟨k, n, m, l⟩ = find3g ⟨k, n, m, l⟩ g) := by show _ = _; rw [HF.out]; rfl
                  clear HF
                  go_wp2_with fail
                  refine HTL.out.mono ?_
                  rintro e w2 ⟨rfl, hb3⟩
                  have b3 := b2.keep hb3
                  have hb3' := hb2.trans (hb3.mono (by simp; omega))
                  clear hb3 b2 hb2 b1 hb1 HTL c0 c1 c2 c3 e0 e1 e2 e3
                  go_wp2
                  go_roundg g
                  case measure => omega
                  case rel => exact ⟨by omega, by rw [HCN.out], b3, hb3', HF2⟩
                · have HF2 : Aside (findM ⟨k, n, m, l⟩ = some [c, m, n]) := by show _ = _; rw [HF.out]; rfl
                  clear HF
                  go_wp2_with fail
                  refine HTL.out.mono ?_
                  rintro e w2 ⟨rfl, hb3⟩
                  have b3 := b2.keep hb3
                  have hb3' := hb2.trans (hb3.mono (by simp; omega))
                  have hsz3 := hb3'.size
                  clear hb3 b2 hb2 b1 hb1 HTL c0 c1 c2 c3 e0 e1 e2 e3
                  have c1 := b3.cell 1
                  have c2 := b3.cell 2
                  simp at c1 c2
                  go_wp2
                  go_ret2
                  exact ⟨hb3'.alloc hsz3 _, Or.inr ⟨[c, m, n], w2.heap.size, HF2.out, rfl, hsz3, Blk.new w2 5 _⟩⟩
              · have HF2 : Aside (findM ⟨k, n, m, l⟩ = find3g ⟨k, n, m, l⟩ g) := by
                  show _ = _
                  rw [hf1, if_neg]
                  simp
                  omega
                have hw : m < 0 ∨ (0 ≤ m ∧ 256 ≤ m) ∨ (0 ≤ m ∧ m < 256 ∧ n < 0) ∨ (0 ≤ m ∧ m < 256 ∧ 0 ≤ n ∧ 256 ≤ n) := by omega
                clear hok hf1 htl3
                rcases hw with h1 | ⟨h1, h2⟩ | ⟨h1, h2, h3⟩ | ⟨h1, h2, h3, h4⟩
                all_goals
                  go_wp2
                  go_roundg g
                  case measure => omega
                  case rel => exact ⟨by omega, by rw [HCN.out], b1, hb1, HF2⟩
        | succ g =>
          have hcn : c < 176 := by omega
          have hc0 : 0 ≤ c ∧ c ≤ 255 := by omega
          have hf1 := hf.out
          rw [find2_next o c g (by omega)] at hf1
          have ht2 := fun n => tells2 c n o
          obtain ⟨S, hS⟩ : ∃ S, S = ((oneM c).2 || c == 132 || c == 134) := ⟨_, rfl⟩
          simp only [← hS] at hf1 ht2
          have HT2 := Lib.hid ht2
          have HF1 : Aside (findM o = then2 (orElse2 c (findS S o c 256) (find2 o g)) o) := hf1
          clear hS ht2 hf1 hf
          go_wp2
          go_loopg [6] 256 (fun g2 s5 wr => ∃ j : Nat, j + g2 = 256 ∧ s5 = .int .i64 j ∧ Blk wr w.heap.size 25 #[.int .i64 o.k, .int .i64 o.n, .int .i64 o.m, .int .i64 o.l] ∧ Below w.heap.size w wr ∧ Aside (findM o = then2 (orElse2 c (findS S o c g2) (find2 o g)) o))
          case atStart => exact ⟨0, rfl, rfl, b1, hb1, HF1⟩
          case round =>
            clear b1 hb1 hsz1 HF1
            obtain ⟨j, hj, rfl, b1, hb1, hf⟩ := hrel
            have hsz1 := hb1.size
            cases gk with
            | zero =>
              obtain rfl : j = 256 := by omega
              have HF2 : Aside (findM o = then2 (find2 o g) o) := by show _ = _; rw [hf.out, findS_zero]; rfl
              clear hf hj
              go_wp2
              go_roundg g
              case measure => omega
              case rel => exact ⟨c + 1, by omega, by omega, rfl, b1, hb1, HF2⟩
            | succ g2 =>
              have hjn : (j : Int) < 256 := by omega
              have hj0 : 0 ≤ (j : Int) ∧ (j : Int) ≤ 255 := by omega
              have htl := tells_any (wr.alloc (.cells (byteCells [c, (j : Int)]) 5)) (some ⟨wr.heap.size, 0, none⟩) [c, (j : Int)] 2 o (by omega) (by simp) (Byts.of_blk (Blk.new wr 5 _) (by intro v hv; simp at hv; omega))
              rw [HT2.out] at htl
              have hb2 := hb1.alloc hsz1 (.cells (byteCells [c, (j : Int)]) 5)
              have b2 := b1.alloc (.cells (byteCells [c, (j : Int)]) 5)
              have hf1 := hf.out
              rw [findS_next S o c j g2 (by omega)] at hf1
              obtain ⟨T, hT⟩ : ∃ T, T = (!S && sameB (moreM c (j : Int) 0) o) := ⟨_, rfl⟩
              rw [← hT] at htl hf1
              have e0 := fun o1 => (b1.alloc o1).cell 0
              have e1 := fun o1 => (b1.alloc o1).cell 1
              have e2 := fun o1 => (b1.alloc o1).cell 2
              have e3 := fun o1 => (b1.alloc o1).cell 3
              simp at e0 e1 e2 e3
              have HTL := Lib.hid htl
              have HF := Lib.hid hf1
              clear htl hf hf1 hT
              cases T
              · have HF2 : Aside (findM o = then2 (orElse2 c (findS S o c g2) (find2 o g)) o) := by show _ = _; rw [HF.out]; rfl
                clear HF
                go_wp2_with fail
                refine HTL.out.mono ?_
                rintro e w2 ⟨rfl, hb3⟩
                have b3 := b2.keep hb3
                have hb3' := hb2.trans (hb3.mono (by simp; omega))
                clear hb3 b2 hb2 b1 hb1 HTL e0 e1 e2 e3
                go_wp2
                go_roundg g2
                case measure => omega
                case rel => exact ⟨j + 1, by omega, by go_num, b3, hb3', HF2⟩
              · have HF2 : Aside (findM o = some [c, (j : Int)]) := by show _ = _; rw [HF.out]; rfl
                clear HF
                go_wp2_with fail
                refine HTL.out.mono ?_
                rintro e w2 ⟨rfl, hb3⟩
                have hb3' := hb2.trans (hb3.mono (by simp; omega))
                have hsz3 := hb3'.size
                clear hb3 b2 hb2 b1 hb1 HTL e0 e1 e2 e3
                go_wp2
                go_ret2
                exact ⟨hb3'.alloc hsz3 _, Or.inr ⟨[c, (j : Int)], w2.heap.size, HF2.out, rfl, hsz3, Blk.new w2 5 _⟩⟩
    | succ g =>
      have hjn : (j : Int) < 256 := by omega
      have hj0 : 0 ≤ (j : Int) ∧ (j : Int) ≤ 255 := by omega
      have htl := tells_any (wr.alloc (.cells (byteCells [(j : Int)]) 5)) (some ⟨wr.heap.size, 0, none⟩) [(j : Int)] 1 o (by omega) (by simp) (Byts.of_blk (Blk.new wr 5 _) (by intro v hv; simp at hv; subst hv; exact hj0))
      rw [tells1] at htl
      have hb2 := hb1.alloc hsz1 (.cells (byteCells [(j : Int)]) 5)
      have b2 := b1.alloc (.cells (byteCells [(j : Int)]) 5)
      have hf1 := hf.out
      have hjj : (255 - (g : Int)) = (j : Int) := by omega
      rw [find1, hjj] at hf1
      obtain ⟨T, hT⟩ : ∃ T, T = ((oneM (j : Int)).2 && sameB (oneM (j : Int)).1 o) := ⟨_, rfl⟩
      rw [← hT] at htl hf1
      have e0 := fun o1 => (b1.alloc o1).cell 0
      have e1 := fun o1 => (b1.alloc o1).cell 1
      have e2 := fun o1 => (b1.alloc o1).cell 2
      have e3 := fun o1 => (b1.alloc o1).cell 3
      simp at e0 e1 e2 e3
      have HTL := Lib.hid htl
      have HF := Lib.hid hf1
      clear htl hf hf1 hT hjj
      cases T
      · have HF2 : Aside (findM o = then1 (find1 o g) o) := by show _ = _; rw [HF.out]; rfl
        clear HF
        go_wp2_with fail
        refine HTL.out.mono ?_
        rintro e w2 ⟨rfl, hb3⟩
        have b3 := b2.keep hb3
        have hb3' := hb2.trans (hb3.mono (by simp; omega))
        clear hb3 b2 hb2 b1 hb1 HTL e0 e1 e2 e3
        go_wp2
        go_roundg g
        case measure => omega
        case rel => exact ⟨j + 1, by omega, by go_num, b3, hb3', HF2⟩
      · have HF2 : Aside (findM o = some [(j : Int)]) := by show _ = _; rw [HF.out]; rfl
        clear HF
        go_wp2_with fail
        refine HTL.out.mono ?_
        rintro e w2 ⟨rfl, hb3⟩
        have hb3' := hb2.trans (hb3.mono (by simp; omega))
        have hsz3 := hb3'.size
        clear hb3 b2 hb2 b1 hb1 HTL e0 e1 e2 e3
        go_wp2
        go_ret2
        exact ⟨hb3'.alloc hsz3 _, Or.inr ⟨[(j : Int)], w2.heap.size, HF2.out, rfl, hsz3, Blk.new w2 5 _⟩⟩
end Go.Proofs.YtdbignfpmpohiaaDoor
