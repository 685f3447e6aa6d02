/-
  The contract of code.find: it finds 'findM'.
-/
import Derived.Test.YtdbignfpmpohiaaDoorSao
namespace Go.Proofs.YtdbignfpmpohiaaDoor
open Go.RowKit

def sameB (x o : O4) : Bool := x.k == o.k && (x.n == o.n && x.m == o.m)
/-- by one byte: g of them are left -/
def find1 (o : O4) : Nat → Option Int
  | 0 => none
  | g + 1 => if ((oneM (255 - (g : Int))).2 && sameB (oneM (255 - (g : Int))).1 o) = true then some (255 - (g : Int)) else find1 o g
/-- the second of two bytes: g are left -/
def find2n (o : O4) (c : Int) : Nat → Option Int
  | 0 => none
  | g + 1 => if sameB (moreM c (255 - (g : Int)) 0) o = true then some (255 - (g : Int)) else find2n o c g
/-- by two bytes: g first ones are left -/
def find2 (o : O4) : Nat → Option (Int × Int)
  | 0 => none
  | g + 1 =>
    if ((oneM (175 - (g : Int))).2 || (175 - (g : Int) == 132) || (175 - (g : Int) == 134)) = true then find2 o g
    else match find2n o (175 - (g : Int)) 256 with
      | some n => some (175 - (g : Int), n)
      | none => find2 o g
def find3 (o : O4) : Option (List Int) :=
  if (o.k = 17 ∨ o.k = 18) ∧ 0 ≤ o.n ∧ o.n < 256 ∧ 0 ≤ o.m ∧ o.m < 256 then some [132 + 2 * (o.k - 17), o.m, o.n] else none
def then2 (r : Option (Int × Int)) (o : O4) : Option (List Int) := match r with
  | some (c, n) => some [c, n]
  | none => find3 o
def then1 (r : Option Int) (o : O4) : Option (List Int) := match r with
  | some c => some [c]
  | none => then2 (find2 o 48) o
/-- the fewest bytes that tell it -/
def findM (o : O4) : Option (List Int) := then1 (find1 o 256) o

def byteCells (bs : List Int) : Array Value := (bs.map (Value.int .u8)).toArray
/-- what find leaves -/
def FindPost (r : Option (List Int)) (w : World) (e : Ending) (w' : World) : Prop :=
  Below w.heap.size w w' ∧ ((r = none ∧ e = .returned (.slice none 0 0)) ∨
    ∃ bs g, r = some bs ∧ e = .returned (.slice (some ⟨g, 0, none⟩) bs.length bs.length) ∧ w.heap.size ≤ g ∧ Blk w' g 5 (byteCells bs))

theorem FindPost.of {r r' : Option (List Int)} {w : World} {e : Ending} {w' : World} (h : FindPost r w e w') (hr : r' = r) : FindPost r' w e w' := by subst hr; exact h

set_option maxRecDepth 100000 in
set_option maxHeartbeats 8000000 in
theorem find_any (o : O4) (w : World) (ht : Tabs w) :
    Calls Tryd.prog 27 #[.agg #[.int .i64 o.k, .int .i64 o.n, .int .i64 o.m, .int .i64 o.l]] w (FindPost (findM o) w) := by
  have HT := Lib.hid ht
  clear ht
  have b0 := Blk.new w 25 #[.int .i64 o.k, .int .i64 o.n, .int .i64 o.m, .int .i64 o.l]
  have hb0 := (Below.refl w.heap.size w).alloc (Nat.le_refl _) (.cells #[.int .i64 o.k, .int .i64 o.n, .int .i64 o.m, .int .i64 o.l] 25)
  go_enter Tryd.func27, Tryd.ntmps27
  go_wp2
  go_loopg [11] 256 (fun g s11 wr => ∃ j : Nat, j + g = 256 ∧ s11 = .int .i64 j ∧ Blk wr w.heap.size 25 #[.int .i64 o.k, .int .i64 o.n, .int .i64 o.m, .int .i64 o.l] ∧ Below w.heap.size w wr ∧ Aside (findM o = then1 (find1 o g) o))
  case atStart => exact ⟨0, rfl, rfl, b0, hb0, rfl⟩
  case round =>
    clear b0 hb0
    obtain ⟨j, hj, rfl, b1, hb1, hf⟩ := hrel
    have hsz1 := hb1.size
    cases gk with
    | zero =>
      obtain rfl : j = 256 := by omega
      have hf1 : Aside (findM o = then2 (find2 o 48) o) := hf.out
      clear hf
      go_wp2
      clear hj
      go_loopg [6] 48 (fun g s6 wr => ∃ c : Int, c + g = 176 ∧ 128 ≤ c ∧ s6 = .int .i64 c ∧ Blk wr w.heap.size 25 #[.int .i64 o.k, .int .i64 o.n, .int .i64 o.m, .int .i64 o.l] ∧ Below w.heap.size w wr ∧ Aside (findM o = then2 (find2 o g) o))
      case atStart => exact ⟨128, rfl, by omega, rfl, b1, hb1, hf1⟩
      case round =>
        clear b1 hb1 hf1 hsz1
        obtain ⟨c, hc, hc128, rfl, b1, hb1, hf⟩ := hrel
        have hsz1 := hb1.size
        cases gk with
        | zero =>
          obtain rfl : c = 176 := by omega
          have hf1 : Aside (findM o = find3 o) := hf.out
          clear hf
          obtain ⟨k, n, m, l⟩ := o
          simp only at b1
          have c0 := b1.cell 0
          have c1 := b1.cell 1
          have c2 := b1.cell 2
          simp at c0 c1 c2
          have hcs : ((k == 17) = false ∧ (k == 18) = false) ∨ k = 17 ∨ k = 18 := by
            by_cases e1 : k = 17
            · exact Or.inr (Or.inl e1)
            · by_cases e2 : k = 18
              · exact Or.inr (Or.inr e2)
              · exact Or.inl ⟨by simp; omega, by simp; omega⟩
          rcases hcs with ⟨e1, e2⟩ | hk
          · have hn : find3 ⟨k, n, m, l⟩ = none := by
              rw [find3, if_neg]
              simp at e1 e2 ⊢
              omega
            have HN := Lib.hid hn
            clear hn
            go_wp2
            go_ret
            exact ⟨hb1, Or.inl ⟨by rw [hf1.out, HN.out], rfl⟩⟩
          · by_cases hok : 0 ≤ n ∧ n < 256 ∧ 0 ≤ m ∧ m < 256
            · obtain ⟨h1, h2, h3, h4⟩ := hok
              have hn : find3 ⟨k, n, m, l⟩ = some [132 + 2 * (k - 17), m, n] := by rw [find3, if_pos ⟨hk, h1, h2, h3, h4⟩]
              have HN := Lib.hid hn
              clear hn
              rcases hk with rfl | rfl
              all_goals
                go_wp2
                go_ret
                exact ⟨hb1.alloc hsz1 _, Or.inr ⟨_, wr.heap.size, by rw [hf1.out, HN.out], rfl, hsz1, Blk.new wr 5 _⟩⟩
            · have hn : find3 ⟨k, n, m, l⟩ = none := by rw [find3, if_neg (fun h => hok h.2)]
              have HN := Lib.hid hn
              have hw : n < 0 ∨ (0 ≤ n ∧ 256 ≤ n) ∨ (0 ≤ n ∧ n < 256 ∧ m < 0) ∨ (0 ≤ n ∧ n < 256 ∧ 0 ≤ m ∧ 256 ≤ m) := by omega
              clear hn hok
              rcases hk with rfl | rfl
              all_goals
                rcases hw with h1 | ⟨h1, h2⟩ | ⟨h1, h2, h3⟩ | ⟨h1, h2, h3, h4⟩
                all_goals
                  go_wp2
                  go_ret
                  exact ⟨hb1, Or.inl ⟨by rw [hf1.out, HN.out], rfl⟩⟩
        | succ g =>
          have hcn : c < 176 := by omega
          have hT1 := HT.out.keep hb1
          have hc0 : 0 ≤ c ∧ c ≤ 255 := by omega
          have hone := one_any c wr hT1 hc0
          obtain ⟨r, hr⟩ : ∃ r, r = oneM c := ⟨_, rfl⟩
          rw [← hr] at hone
          have hf1 := hf.out
          have hjj : (175 - (g : Int)) = c := by omega
          rw [find2, hjj, ← hr] at hf1
          have HONE := Lib.hid hone
          have hlong : r.2 = false → longC c := fun h => (oneM_long c hc0).1 (by rw [← hr]; exact h)
          obtain ⟨x, ok⟩ := r
          have HL := Lib.hid hlong
          have HF : Aside (findM o = then2 (if (ok || c == 132 || c == 134) = true then find2 o g else match find2n o c 256 with | some n => some (c, n) | none => find2 o g) o) := hf1
          clear hone hT1 hr hf hf1 hjj hlong
          have hcs : ok = true ∨ (ok = false ∧ (c == 132) = true) ∨ (ok = false ∧ (c == 132) = false ∧ (c == 134) = true) ∨ (ok = false ∧ (c == 132) = false ∧ (c == 134) = false) := by
            cases ok <;> cases c == 132 <;> cases c == 134 <;> simp
          rcases hcs with h1 | ⟨h1, h2⟩ | ⟨h1, h2, h3⟩ | ⟨h1, h2, h3⟩
          case inr.inr.inr =>
            subst h1
            have hs : (false || c == 132 || c == 134) = false := by rw [h2, h3]; rfl
            have HF2 : Aside (findM o = then2 (match find2n o c 256 with | some n => some (c, n) | none => find2 o g) o) := by
              show _ = _
              rw [HF.out, hs]; rfl
            have hlc := HL.out rfl
            clear hs HF HL
            go_wp2_with fail
            refine HONE.out.mono ?_
            rintro e w2 ⟨rfl, hb2⟩
            have b2 := (b1.keep hb2).alloc (.cells #[.int .i64 x.k, .int .i64 x.n, .int .i64 x.m, .int .i64 x.l] 25)
            have hb2' := (hb1.trans (hb2.mono hsz1)).alloc (by have := hb2.size; omega) (.cells #[.int .i64 x.k, .int .i64 x.n, .int .i64 x.m, .int .i64 x.l] 25)
            clear hb2 b1 hb1 hsz1 HONE
            go_wp2
            go_loopg [63] 256 (fun g2 s63 wr => ∃ j2 : Nat, j2 + g2 = 256 ∧ s63 = .int .i64 j2 ∧ Blk wr w.heap.size 25 #[.int .i64 o.k, .int .i64 o.n, .int .i64 o.m, .int .i64 o.l] ∧ Below w.heap.size w wr ∧ Aside (findM o = then2 (match find2n o c g2 with | some n => some (c, n) | none => find2 o g) o))
            case atStart => exact ⟨0, rfl, rfl, b2, hb2', HF2⟩
            case round =>
              clear b2 hb2' HF2
              obtain ⟨j2, hj2, rfl, b1, hb1, hf⟩ := hrel
              have hsz1 := hb1.size
              cases gk with
              | zero =>
                have hj2n : ¬ ((j2 : Int) < 256) := by omega
                have hf1 : Aside (findM o = then2 (find2 o g) o) := hf.out
                clear hf
                go_wp2
                go_roundg g
                case measure => omega
                case rel => exact ⟨c + 1, by omega, by omega, rfl, b1, hb1, hf1⟩
              | succ g2 =>
                have hj2n : (j2 : Int) < 256 := by omega
                have hj0 : 0 ≤ (j2 : Int) ∧ (j2 : Int) ≤ 255 := by omega
                have hT1 := HT.out.keep hb1
                have hmore := more_any c j2 0 wr hT1 hlc hj0
                obtain ⟨y, hy⟩ : ∃ y, y = moreM c j2 0 := ⟨_, rfl⟩
                rw [← hy] at hmore
                have hf1 := hf.out
                have hjj : (255 - (g2 : Int)) = (j2 : Int) := by omega
                rw [find2n, hjj, ← hy] at hf1
                have HMORE := Lib.hid hmore
                have HF : Aside (findM o = then2 (match (if sameB y o = true then some (j2 : Int) else find2n o c g2) with | some n => some (c, n) | none => find2 o g) o) := hf1
                clear hmore hT1 hy hf hf1 hjj
                have hcs : ((y.k == o.k) = false) ∨ ((y.k == o.k) = true ∧ (y.n == o.n) = false) ∨ ((y.k == o.k) = true ∧ (y.n == o.n) = true ∧ (y.m == o.m) = false) ∨
                    ((y.k == o.k) = true ∧ (y.n == o.n) = true ∧ (y.m == o.m) = true) := by
                  cases y.k == o.k <;> cases y.n == o.n <;> cases y.m == o.m <;> simp
                rcases hcs with h4 | ⟨h4, h5⟩ | ⟨h4, h5, h6⟩ | ⟨h4, h5, h6⟩
                case inr.inr.inr =>
                  have hs : sameB y o = true := by rw [sameB, h4, h5, h6]; rfl
                  have HS := Lib.hid hs
                  clear hs
                  go_wp2_with fail
                  refine HMORE.out.mono ?_
                  rintro e w2 ⟨rfl, hb2⟩
                  have b2 := b1.keep hb2
                  have hb2' := hb1.trans (hb2.mono hsz1)
                  have hlt := b2.lt
                  have c0 := fun o1 => (b2.alloc o1).cell 0
                  have c1 := fun o1 => (b2.alloc o1).cell 1
                  have c2 := fun o1 => (b2.alloc o1).cell 2
                  simp at c0 c1 c2
                  clear hb2 b1 hb1 hsz1 HMORE
                  go_wp2
                  go_ret
                  refine ⟨(hb2'.alloc (by omega) _).alloc (by simp; omega) _, Or.inr ⟨[c, (j2 : Int)], w2.heap.size + 1, ?_, rfl, by omega, Blk.new2 w2 _ 5 _⟩⟩
                  rw [HF.out, HS.out]; rfl
                all_goals
                  have hs : sameB y o = false := by first | (rw [sameB, h4]; rfl) | (rw [sameB, h4, h5]; rfl) | (rw [sameB, h4, h5, h6]; rfl)
                  have HS := Lib.hid hs
                  clear hs
                  go_wp2_with fail
                  refine HMORE.out.mono ?_
                  rintro e w2 ⟨rfl, hb2⟩
                  have b2 := b1.keep hb2
                  have hb2' := hb1.trans (hb2.mono hsz1)
                  have hlt := b2.lt
                  have c0 := fun o1 => (b2.alloc o1).cell 0
                  have c1 := fun o1 => (b2.alloc o1).cell 1
                  have c2 := fun o1 => (b2.alloc o1).cell 2
                  simp at c0 c1 c2
                  clear hb2 b1 hb1 hsz1 HMORE
                  go_wp2
                  go_roundg g2
                  case measure => omega
                  case rel => exact ⟨j2 + 1, by omega, by go_num, b2.alloc _, hb2'.alloc (by omega) _, by show _ = _; rw [HF.out, HS.out]; rfl⟩
          all_goals
            have hs : (ok || c == 132 || c == 134) = true := by
              subst h1
              first | rfl | (rw [h2]; rfl) | (rw [h3]; simp)
            subst h1
            have HF2 : Aside (findM o = then2 (find2 o g) o) := by show _ = _; rw [HF.out, hs]; rfl
            clear hs HF HL
            go_wp2_with fail
            refine HONE.out.mono ?_
            rintro e w2 ⟨rfl, hb2⟩
            have b2 := b1.keep hb2
            have hb2' := hb1.trans (hb2.mono hsz1)
            clear hb2 b1 hb1 hsz1 HONE
            go_wp2
            go_roundg g
            case measure => omega
            case rel => exact ⟨c + 1, by omega, by omega, rfl, b2.alloc _, hb2'.alloc (by have := hb2'.size; omega) _, HF2⟩
    | succ g =>
      have hjn : (j : Int) < 256 := by omega
      have hT1 := HT.out.keep hb1
      have hj0 : 0 ≤ (j : Int) ∧ (j : Int) ≤ 255 := by omega
      have hone := one_any j wr hT1 hj0
      obtain ⟨r, hr⟩ : ∃ r, r = oneM j := ⟨_, rfl⟩
      rw [← hr] at hone
      have hf1 := hf.out
      have hjj : (255 - (g : Int)) = (j : Int) := by omega
      rw [find1, hjj, ← hr] at hf1
      have HONE := Lib.hid hone
      obtain ⟨x, ok⟩ := r
      have HF : Aside (findM o = then1 (if (ok && sameB x o) = true then some (j : Int) else find1 o g) o) := hf1
      clear hone hT1 hr hf hf1 hjj
      have hcs : ok = false ∨ (ok = true ∧ (x.k == o.k) = false) ∨ (ok = true ∧ (x.k == o.k) = true ∧ (x.n == o.n) = false) ∨ (ok = true ∧ (x.k == o.k) = true ∧ (x.n == o.n) = true ∧ (x.m == o.m) = false) ∨
          (ok = true ∧ (x.k == o.k) = true ∧ (x.n == o.n) = true ∧ (x.m == o.m) = true) := by
        cases ok <;> cases x.k == o.k <;> cases x.n == o.n <;> cases x.m == o.m <;> simp
      rcases hcs with h1 | ⟨h1, h2⟩ | ⟨h1, h2, h3⟩ | ⟨h1, h2, h3, h4⟩ | ⟨h1, h2, h3, h4⟩
      case inr.inr.inr.inr =>
        subst h1
        have hs : sameB x o = true := by rw [sameB, h2, h3, h4]; rfl
        have HS := Lib.hid hs
        clear hs
        go_wp2_with fail
        refine HONE.out.mono ?_
        rintro e w2 ⟨rfl, hb2⟩
        have b2 := b1.keep hb2
        have hb2' := hb1.trans (hb2.mono hsz1)
        have hlt := b2.lt
        have c0 := fun o1 => (b2.alloc o1).cell 0
        have c1 := fun o1 => (b2.alloc o1).cell 1
        have c2 := fun o1 => (b2.alloc o1).cell 2
        simp at c0 c1 c2
        clear hb2 b1 hb1 hsz1 HONE
        go_wp2
        go_ret
        refine ⟨(hb2'.alloc (by omega) _).alloc (by simp; omega) _, Or.inr ⟨[(j : Int)], w2.heap.size + 1, ?_, rfl, by omega, Blk.new2 w2 _ 5 _⟩⟩
        rw [HF.out, HS.out]; rfl
      all_goals
        have hs : (ok && sameB x o) = false := by
          subst h1
          first | rfl | (rw [sameB, h2]; rfl) | (rw [sameB, h2, h3]; rfl) | (rw [sameB, h2, h3, h4]; rfl)
        subst h1
        have HS := Lib.hid hs
        clear hs
        go_wp2_with fail
        refine HONE.out.mono ?_
        rintro e w2 ⟨rfl, hb2⟩
        have b2 := b1.keep hb2
        have hb2' := hb1.trans (hb2.mono hsz1)
        have hlt := b2.lt
        have c0 := fun o1 => (b2.alloc o1).cell 0
        have c1 := fun o1 => (b2.alloc o1).cell 1
        have c2 := fun o1 => (b2.alloc o1).cell 2
        simp at c0 c1 c2
        clear hb2 b1 hb1 hsz1 HONE
        go_wp2
        go_roundg g
        case measure => omega
        case rel => exact ⟨j + 1, by omega, by go_num, b2.alloc _, hb2'.alloc (by omega) _, by show _ = _; rw [HF.out, HS.out]; rfl⟩
end Go.Proofs.YtdbignfpmpohiaaDoor
