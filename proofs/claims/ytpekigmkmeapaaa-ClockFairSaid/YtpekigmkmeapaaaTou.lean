/-
  The contracts of clock.New and (*Clock).Touch.
-/
import Derived.Test.YtpekigmkmeapaaaVic
import Derived.Laws.MakeOwn
namespace Go.Proofs.Ytpekigmkmeapaaa
open Go.RowKit

theorem run_make_rowN {P : Program} (t e : TypeId) (i : TypeInfo) (z : Value) (ht : P.underlying t = some (.slice e)) (hi : P.info? e = some i) (hz : i.zero = some z)
    (kl kc : IntKind) (n c : Nat) (hnc : n ≤ c) (hbytes : i.bytes * c ≤ 281474976710656) (h63 : c ≤ 9223372036854775807) (w : World) :
    (Instr.makeSlice t (.int kl (n : Int)) (.int kc (c : Int))).run P w = .ok (.slice (some ⟨w.heap.size, 0, none⟩) n c) (w.alloc (.cells (madeCells z.cells (c * i.size)) e)) := by
  have hb : (i.bytes : Int) * (c : Int) ≤ 281474976710656 := by
    have h : ((i.bytes * c : Nat) : Int) ≤ 281474976710656 := by omega
    rwa [Int.natCast_mul] at h
  have hr := run_make (P := P) w t e i z ht hi hz kl kc n c (by omega) (by omega) hb (by omega)
  simp only [Int.toNat_natCast] at hr
  exact hr

theorem Try.info58 : (Try.prog.info? 58).map (fun i => (i.zero, i.size, i.bytes)) = some (some (.agg #[.bool false, .bool false, .bool false]), 3, 3) := by kernel_rfl

/-- a new clock's places -/
def fresh (n : Nat) : List Pl := List.replicate n ⟨false, false, false⟩

theorem cells_fresh (n : Nat) : cellsOf (fresh n) = List.replicate (n * 3) (.bool false) := by
  induction n with
  | zero => rfl
  | succ n ih =>
    have e : (n + 1) * 3 = n * 3 + 1 + 1 + 1 := by omega
    rw [fresh, List.replicate_succ, cellsOf_cons, e, List.replicate_succ, List.replicate_succ, List.replicate_succ]
    rw [fresh] at ih
    rw [ih]

theorem made_fresh (n : Nat) : madeCells (Value.cells (.agg #[.bool false, .bool false, .bool false])) (n * 3) = (cellsOf (fresh n)).toArray := by
  rw [cells_fresh]
  apply Array.ext
  · simp [madeCells]
  · intro i h1 h2
    have h3 : i % 3 < 3 := Nat.mod_lt _ (by omega)
    simp only [madeCells, Value.cells, Array.getElem_map, Array.getElem_range, List.getElem_toArray, List.getElem_replicate]
    have : i % 3 = 0 ∨ i % 3 = 1 ∨ i % 3 = 2 := by omega
    rcases this with h | h | h <;> simp [h]

set_option maxHeartbeats 400000 in
theorem new_bad (w : World) (n : Int) (h : n < 0 ∨ 16384 < n) :
    Calls Try.prog 8 #[.int .i64 n] w fun e w' => e = .returned (.tuple #[.pointer none, .int .i64 2]) ∧ w = w' := by
  by_cases h0 : n < 0
  · clear h
    go_enter Try.func8, Try.ntmps8
    go_wp2
    go_ret2
    exact ⟨rfl, rfl⟩
  · have h1 : 16384 < n := by omega
    clear h
    go_enter Try.func8, Try.ntmps8
    go_wp2
    go_ret2
    exact ⟨rfl, rfl⟩

/-- what New leaves -/
def NewPost (n : Nat) (w : World) (e : Ending) (w' : World) : Prop :=
  ∃ c lb, e = .returned (.tuple #[.pointer (some ⟨c, 0, none⟩), .int .i64 0]) ∧ Clk w' c lb (fresh n) 0 ∧ Below w.heap.size w w' ∧ w.heap.size ≤ c ∧ w.heap.size ≤ lb

set_option maxHeartbeats 400000 in
theorem new_ok (w : World) (n : Nat) (h : n ≤ 16384) :
    Calls Try.prog 8 #[.int .i64 n] w (NewPost n w) := by
  obtain ⟨i0, hi, hz0, hz1, hz2⟩ := info_parts Try.info58
  have hmk := fun W => run_make_rowN (P := Try.prog) 49 58 i0 _ Try.underlying49 hi hz0 .i64 .i64 n n (Nat.le_refl _) (by rw [hz2]; omega) (by omega) W
  rw [hz1, made_fresh] at hmk
  clear hi hz0 hz1 hz2
  go_enter Try.func8, Try.ntmps8
  go_wp2
  go_ret2
  refine ⟨w.heap.size + 1, w.heap.size, rfl, ⟨?_, ?_, by simpa [fresh] using h⟩, (((Below.refl _ w).alloc (Nat.le_refl _) _).alloc (by simp) _), by omega, by omega⟩
  · have := Blk.new (w.alloc (.cells (cellsOf (fresh n)).toArray 58)) 51 #[.slice (some ⟨w.heap.size, 0, none⟩) n n, .int .i64 0]
    simpa [fresh] using this
  · exact (Blk.new w 58 (cellsOf (fresh n)).toArray).alloc _

/-- places are touched -/
def touchL (L : List Pl) : List Nat → List Pl
  | [] => L
  | i :: r => match L[i]? with
    | none => touchL L r
    | some x => touchL (L.set i { x with t := true }) r


/-- all of them are in -/
def allIn (L : List Pl) (l : List Nat) : Prop := ∀ i ∈ l, ∃ x, L[i]? = some x ∧ x.i = true

theorem touchL_length (L : List Pl) (l : List Nat) : (touchL L l).length = L.length := by
  induction l generalizing L with
  | nil => rfl
  | cons i r ih =>
    unfold touchL
    split
    · exact ih L
    · rw [ih]; simp

theorem allIn_touch (L : List Pl) (l : List Nat) (i : Nat) (x : Pl) (h : allIn L l) (hx : L[i]? = some x) : allIn (L.set i { x with t := true }) l := by
  intro j hj
  obtain ⟨y, hy, hyi⟩ := h j hj
  by_cases e : i = j
  · subst e
    rw [hx] at hy
    cases hy
    exact ⟨{ x with t := true }, by rw [List.getElem?_set_self ((List.getElem?_eq_some_iff.1 hx).1)], hyi⟩
  · exact ⟨y, by rw [List.getElem?_set_ne e]; exact hy, hyi⟩

def ints (l : List Int) : Array Value := (l.map (Value.int .i64)).toArray
theorem ints_get (l : List Int) (j : Nat) (i : Int) (h : l[j]? = some i) : (ints l)[j]? = some (.int .i64 i) := by simp [ints, h]

/-- what cannot be touched -/
def badAt (L : List Pl) (i : Int) : Prop := i < 0 ∨ (L.length : Int) ≤ i ∨ ∃ (j : Nat) (x : Pl), i = j ∧ L[j]? = some x ∧ x.i = false
def goodAt (L : List Pl) (i : Int) : Prop := ∃ (j : Nat) (x : Pl), i = j ∧ L[j]? = some x ∧ x.i = true

theorem at_bad (w : World) (c lb h : Nat) (L : List Pl) (i : Int) (k : Clk w c lb L h) (hb : badAt L i) :
    Calls Try.prog 17 #[.pointer (some ⟨c, 0, none⟩), .int .i64 i, .bool true] w fun e w' => e = .returned (.tuple #[.pointer none, .int .i64 4]) ∧ w = w' := by
  rcases hb with h1 | h1 | ⟨j, x, rfl, hx, hi⟩
  · exact at_none w c lb h L i true k (Or.inl h1)
  · exact at_none w c lb h L i true k (Or.inr h1)
  · exact at_not w c lb h L j x k hx hi
def someVal (v : Value) : Prop := ∃ a, v = .pointer (some a)
theorem at_good (w : World) (c lb h : Nat) (L : List Pl) (i : Int) (k : Clk w c lb L h) (hb : goodAt L i) :
    Calls Try.prog 17 #[.pointer (some ⟨c, 0, none⟩), .int .i64 i, .bool true] w fun e w' => e = .returned (.tuple #[.pointer (some ⟨lb, i.toNat * 3, none⟩), .int .i64 0]) ∧ w = w' := by
  obtain ⟨j, x, rfl, hx, hi⟩ := hb
  exact at_in w c lb h L j x k hx hi

set_option maxHeartbeats 1000000 in
theorem touch_bad (w : World) (c lb h tb m : Nat) (L : List Pl) (l : List Int) (k : Clk w c lb L h) (ht : Blk w tb 3 (ints l)) (hm : l.length ≤ 1000)
    (hml : m < l.length) (hgood : ∀ j i, j < m → l[j]? = some i → goodAt L i) (hbad : ∀ i, l[m]? = some i → badAt L i) :
    Calls Try.prog 14 #[.pointer (some ⟨c, 0, none⟩), .slice (some ⟨tb, 0, none⟩) l.length l.length] w (Ret (.int .i64 4) c lb L h w) := by
  have HG := Lib.hid hgood
  have HB := Lib.hid hbad
  obtain ⟨n, hn⟩ : ∃ n, n = l.length := ⟨_, rfl⟩
  rw [← hn] at hm hml
  rw [← hn]
  have HN := Lib.hid hn
  clear hgood hbad hn
  go_enter Try.func14, Try.ntmps14
  go_wp2
  go_loopg [15] m (fun g s15 wr => ∃ j : Nat, j + g = m ∧ s15 = .int .i64 j ∧ w = wr)
  case atStart => exact ⟨0, by omega, rfl, rfl⟩
  case round =>
    obtain ⟨j, hj, rfl, rfl⟩ := hrel
    have hjn : (j : Int) < (n : Int) := by omega
    have hjl : j < l.length := by have := HN.out; omega
    obtain ⟨i, hi⟩ : ∃ i, l[j]? = some i := ⟨_, List.getElem?_eq_getElem hjl⟩
    have hc : w.cell? ⟨tb, j, none⟩ = some (.int .i64 i) := (ht.cell j).trans (ints_get l j i hi)
    have HI := Lib.hid hi
    clear hi hjl
    cases gk with
    | zero =>
      have hb : badAt L i := HB.out i (by have : m = j := by omega
                                          rw [this]; exact HI.out)
      have HBA := Lib.hid hb
      clear hb
      go_wp2_with (go_at_call 17; refine (at_bad _ _ _ _ _ _ k HBA.out).mono ?_; rintro e w' ⟨rfl, rfl⟩)
      go_ret
      exact ⟨rfl, k, Only.refl _ _ _⟩
    | succ g =>
      have hb : goodAt L i := HG.out j i (by omega) HI.out
      have HBA := Lib.hid hb
      clear hb
      go_wp2_with (go_at_call 17; refine (at_good _ _ _ _ _ _ k HBA.out).mono ?_; rintro e w' ⟨rfl, rfl⟩)
      go_roundg g
      case measure => omega
      case rel => exact ⟨j + 1, by omega, by go_num, rfl⟩

set_option maxHeartbeats 2000000 in
theorem touch_ok (w : World) (c lb h tb : Nat) (L : List Pl) (l : List Nat) (k : Clk w c lb L h) (ht : Blk w tb 3 (ints (l.map Int.ofNat))) (hm : l.length ≤ 1000)
    (hgood : allIn L l) :
    Calls Try.prog 14 #[.pointer (some ⟨c, 0, none⟩), .slice (some ⟨tb, 0, none⟩) l.length l.length] w (Ret (.int .i64 0) c lb (touchL L l) h w) := by
  have HG := Lib.hid hgood
  have htb1 : tb ≠ c := by
    rintro rfl
    have := k.head
    unfold Blk at this ht
    rw [this] at ht
    injection ht with ht
    injection ht with _ ht
    exact absurd ht (by decide)
  have htb2 : tb ≠ lb := by
    rintro rfl
    have := k.body
    unfold Blk at this ht
    rw [this] at ht
    injection ht with ht
    injection ht with _ ht
    exact absurd ht (by decide)
  obtain ⟨n, hn⟩ : ∃ n, n = l.length := ⟨_, rfl⟩
  rw [← hn] at hm
  rw [← hn]
  have HN := Lib.hid hn
  have hs := k.size
  clear hgood hn
  go_enter Try.func14, Try.ntmps14
  go_wp2
  go_loopg [15] n (fun g s15 wr => ∃ j : Nat, j + g = n ∧ s15 = .int .i64 j ∧ w = wr)
  case atStart => exact ⟨0, by omega, rfl, rfl⟩
  case round =>
    obtain ⟨j, hj, rfl, rfl⟩ := hrel
    cases gk with
    | zero =>
      have hjn : ¬ ((j : Int) < (n : Int)) := by omega
      go_wp2
      clear hj hjn
      go_loopg [31] n (fun g s31 wr => ∃ (j : Nat) (L1 : List Pl), j + g = n ∧ s31 = .int .i64 j ∧ Clk wr c lb L1 h ∧ L1.length = L.length ∧ Only c lb w wr ∧ Aside (allIn L1 (l.drop j) ∧ touchL L1 (l.drop j) = touchL L l))
      case atStart => exact ⟨0, L, by omega, rfl, k, rfl, Only.refl _ _ _, by rw [List.drop_zero]; exact HG.out, by rw [List.drop_zero]⟩
      case round =>
        obtain ⟨j, L1, hj, rfl, k1, hl1, ho, hA⟩ := hrel
        cases gk with
        | zero =>
          have hjn : ¬ ((j : Int) < (n : Int)) := by omega
          go_wp2
          go_ret
          have h2 := hA.out.2
          have hnn := HN.out
          rw [List.drop_eq_nil_of_le (by omega)] at h2
          rw [← h2]
          exact ⟨rfl, k1, ho⟩
        | succ g =>
          have hjn : ((j : Int) < (n : Int)) := by omega
          have hjl : j < l.length := by have := HN.out; omega
          obtain ⟨i, hi⟩ : ∃ i, l[j]? = some i := ⟨_, List.getElem?_eq_getElem hjl⟩
          have hdrop : l.drop j = i :: l.drop (j + 1) := by
            rw [List.drop_eq_getElem_cons hjl]
            rw [List.getElem?_eq_getElem hjl] at hi
            injection hi with hi
            rw [hi]
          have htw := ho.blk ht htb1 htb2
          have hc : wr.cell? ⟨tb, j, none⟩ = some (.int .i64 (i : Int)) := (htw.cell j).trans (ints_get _ j i (by rw [List.getElem?_map, hi]; rfl))
          obtain ⟨hA1, hA2⟩ := hA.out
          rw [hdrop] at hA1 hA2
          obtain ⟨x, hx, hxi⟩ := hA1 i (by simp)
          have hil : i < L.length := by have := (List.getElem?_eq_some_iff.1 hx).1; omega
          have d0 := k1.c0
          rw [hl1] at d0
          have b2 := k1.bt hx
          have f2 := k1.bf (i * 3 + 1)
          have k2 := k1.setT hx true
          have hN : Aside (allIn (L1.set i { x with t := true }) (l.drop (j + 1)) ∧ touchL (L1.set i { x with t := true }) (l.drop (j + 1)) = touchL L l) := by
            refine ⟨allIn_touch _ _ _ _ (fun y hy => hA1 y (by simp [hy])) hx, ?_⟩
            rw [← hA2]
            rw [touchL, hx]
          have HL1 := Lib.hid hl1
          clear hA hA1 hA2 hx hxi hdrop hi hjl hl1 htw
          go_wp2
          go_roundg g
          case measure => omega
          case rel => exact ⟨j + 1, _, by omega, by go_num, k2, by rw [List.length_set]; exact HL1.out, ho.setB _ _, hN⟩
    | succ g =>
      have hjn : (j : Int) < (n : Int) := by omega
      have hjl : j < l.length := by have := HN.out; omega
      obtain ⟨i, hi⟩ : ∃ i, l[j]? = some i := ⟨_, List.getElem?_eq_getElem hjl⟩
      have hc : w.cell? ⟨tb, j, none⟩ = some (.int .i64 (i : Int)) := (ht.cell j).trans (ints_get _ j i (by rw [List.getElem?_map, hi]; rfl))
      have hb : goodAt L (i : Int) := by
        obtain ⟨x, hx, hxi⟩ := HG.out i (List.mem_of_getElem? hi)
        exact ⟨i, x, rfl, hx, hxi⟩
      have HBA := Lib.hid hb
      clear hb hi hjl
      go_wp2_with (go_at_call 17; refine (at_good _ _ _ _ _ _ k HBA.out).mono ?_; rintro e w' ⟨rfl, rfl⟩)
      go_roundg g
      case measure => omega
      case rel => exact ⟨j + 1, by omega, by go_num, rfl⟩

end Go.Proofs.Ytpekigmkmeapaaa
