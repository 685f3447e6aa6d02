/-
  The contract of code.All: it tells 'allF'.
-/
import Derived.Test.YtdbignfpmpohiaaDoorRta
import Derived.OwnWalk
import Derived.Laws.OwnMore
namespace Go.Proofs.YtdbignfpmpohiaaDoor
open Go.RowKit

def O4.cells (o : O4) : List Value := [.int .i64 o.k, .int .i64 o.n, .int .i64 o.m, .int .i64 o.l]
def opCells (l : List O4) : List Value := l.flatMap O4.cells
theorem opCells_snoc (l : List O4) (o : O4) : opCells (l ++ [o]) = opCells l ++ o.cells := by simp [opCells]
theorem opCells_length (l : List O4) : (opCells l).length = l.length * 4 := by
  induction l with
  | nil => rfl
  | cons o l ih => simp only [opCells, List.flatMap_cons, List.length_append, List.length_cons] at *; rw [ih]; simp [O4.cells]; omega
theorem opCells_get (l : List O4) (i : Nat) (o : O4) (h : l[i]? = some o) :
    (opCells l)[i * 4]? = some (.int .i64 o.k) ∧ (opCells l)[i * 4 + 1]? = some (.int .i64 o.n) ∧ (opCells l)[i * 4 + 2]? = some (.int .i64 o.m) ∧ (opCells l)[i * 4 + 3]? = some (.int .i64 o.l) := by
  induction l generalizing i with
  | nil => simp at h
  | cons y l ih =>
    cases i with
    | zero => simp at h; subst h; simp [opCells, O4.cells]
    | succ i =>
      simp at h
      have := ih i h
      have e : (i + 1) * 4 = i * 4 + 1 + 1 + 1 + 1 := by omega
      rw [e]
      simpa [opCells, O4.cells] using this

/-- what is told one behind the other, from j on -/
def allF : Nat → List Int → Nat → List O4 × Int
  | 0, _, _ => ([], 0)
  | f + 1, bs, j =>
    if bs.length ≤ j then ([], 0)
    else if (atN bs j).2 ≠ 0 then ([], (atN bs j).2)
    else if (allF f bs (j + (atN bs j).1.l.toNat)).2 ≠ 0 then ([], (allF f bs (j + (atN bs j).1.l.toNat)).2)
    else ((atN bs j).1 :: (allF f bs (j + (atN bs j).1.l.toNat)).1, 0)
def allM (bs : List Int) : List O4 × Int := allF bs.length bs 0

/-- what has been told and what will be -/
def joinA (acc : List O4) (r : List O4 × Int) : List O4 × Int := if r.2 ≠ 0 then ([], r.2) else (acc ++ r.1, 0)
theorem allF_done (f : Nat) (bs : List Int) (j : Nat) (h : bs.length ≤ j) : allF f bs j = ([], 0) := by
  cases f with
  | zero => rfl
  | succ f => rw [allF, if_pos h]
theorem joinA_err (acc : List O4) (f : Nat) (bs : List Int) (j : Nat) (h : j < bs.length) (he : (atN bs j).2 ≠ 0) : joinA acc (allF (f + 1) bs j) = ([], (atN bs j).2) := by
  rw [allF, if_neg (by omega), if_pos he, joinA, if_pos he]
theorem joinA_ok (acc : List O4) (f : Nat) (bs : List Int) (j : Nat) (h : j < bs.length) (he : (atN bs j).2 = 0) :
    joinA acc (allF (f + 1) bs j) = joinA (acc ++ [(atN bs j).1]) (allF f bs (j + (atN bs j).1.l.toNat)) := by
  rw [allF, if_neg (by omega), if_neg (by simp [he])]
  split
  · rename_i h2; rw [joinA, if_pos h2, joinA, if_pos h2]
  · rename_i h2; rw [joinA, if_neg (by simp), joinA, if_neg h2]; simp

/-- things to do, in memory of the call's own -/
def Owns (w : World) (B : Nat) (v : Value) (l : List O4) : Prop := w.ownsRow B 25 4 v l.length (opCells l)

theorem only_of_below {a w : World} (h : Below a.heap.size a w) (row : Option Nat) : a.grownBy w row := ⟨h.os, h.tape, h.output, h.size, fun i hi _ => h.block i hi⟩
theorem Owns.keep {w w' : World} {B : Nat} {v : Value} {l : List O4} (h : Owns w B v l) (hb : Below w.heap.size w w') : Owns w' B v l :=
  World.ownsRow.kept h (only_of_below hb none) (by cases v.ownBlock <;> simp)

theorem Blk.new2 (w : World) (o : Obj) (t : TypeId) (cs : Array Value) : Blk ((w.alloc o).alloc (.cells cs t)) (w.heap.size + 1) t cs := by
  have := Blk.new (w.alloc o) t cs
  have e : (w.alloc o).heap.size = w.heap.size + 1 := by simp
  rwa [e] at this
theorem Blk.row {w : World} {g : Nat} {t : TypeId} {cs : Array Value} (h : Blk w g t cs) : ∀ j u, cs.toList[j]? = some u → w.cell? ((⟨g, 0, none⟩ : Addr).add j) = some u := by
  intro j u hu
  have hadd : (⟨g, 0, none⟩ : Addr).add j = ⟨g, j, none⟩ := by unfold Addr.add; split <;> simp_all
  rw [hadd, h.cell j]
  simpa using hu
theorem Blk.grown {w w' : World} {g : Nat} {t : TypeId} {cs : Array Value} {row : Option Nat} (h : Blk w g t cs) (hb : w.grownBy w' row) (hg : some g ≠ row) : Blk w' g t cs := (hb.block g h.lt hg).trans h

/-- what All leaves -/
def AllPost (r : List O4 × Int) (w : World) (e : Ending) (w' : World) : Prop :=
  ∃ v, e = .returned (.tuple #[v, .int .i64 r.2]) ∧ Owns w' w.heap.size v r.1 ∧ Below w.heap.size w w' ∧ (r.2 ≠ 0 → v = .slice none 0 0)

theorem Tryd.info25 : (Tryd.prog.info? 25).map (fun i => (i.zero, i.size, i.bytes)) = some (some (.agg #[.int .i64 0, .int .i64 0, .int .i64 0, .int .i64 0]), 4, 32) := by kernel_rfl

set_option maxRecDepth 100000 in
set_option maxHeartbeats 2000000 in
theorem all_any (w : World) (A : Option Addr) (bs : List Int) (cap : Nat) (ht : Tabs w) (hcap : cap ≤ 9223372036854775807) (hlen : bs.length ≤ cap) (hbig : bs.length ≤ 4194304) (hB : Byts w A bs) :
    Calls Tryd.prog 14 #[.slice A bs.length cap] w (AllPost (allM bs) w) := by
  obtain ⟨i0, hi, hz0, hz1, hz2⟩ := info_parts Tryd.info25
  have hv : ∀ v ∈ bs, 0 ≤ v ∧ v ≤ 255 := by
    intro v hv
    obtain ⟨j, hj⟩ := List.getElem?_of_mem hv
    obtain ⟨h1, h2, _⟩ := hB j v hj
    exact ⟨h1, h2⟩
  obtain ⟨n, hn⟩ : ∃ n, n = bs.length := ⟨_, rfl⟩
  obtain ⟨R, hR⟩ : ∃ R, R = allM bs := ⟨_, rfl⟩
  have hR0 : Aside (R = joinA [] (allF n bs 0)) := by
    show _ = _
    rw [hR, hn, joinA]
    split
    · rename_i h2
      have : (allM bs).1 = [] := by
        have key : ∀ f j, (allF f bs j).2 ≠ 0 → (allF f bs j).1 = [] := by
          intro f j h
          cases f with
          | zero => simp [allF] at h
          | succ f =>
            rw [allF] at h ⊢
            split at h
            · simp at h
            · rename_i h1
              rw [if_neg h1]
              split at h
              · rename_i h3; rw [if_pos h3]
              · rename_i h3
                rw [if_neg h3]
                split at h
                · rename_i h4; rw [if_pos h4]
                · simp at h
        exact key _ _ h2
      rw [← this]; rfl
    · rename_i h2
      simp at h2
      have : (allM bs).2 = 0 := h2
      rw [List.nil_append, ← this]; rfl
  rw [← hR]
  have HN := Lib.hid hn
  have HV := Lib.hid hv
  have HB := Lib.hid hB
  have HT := Lib.hid ht
  rw [← hn] at hlen hbig
  rw [← hn]
  clear hn hR hv hB ht
  go_enter Tryd.func14, Tryd.ntmps14
  go_wp2
  go_loopg [4, 5] n (fun g s4 s5 wr => ∃ (j : Nat) (acc : List O4), s5 = .int .i64 j ∧ n ≤ j + g ∧ j ≤ n ∧ acc.length ≤ j ∧ Owns wr w.heap.size s4 acc ∧ Below w.heap.size w wr ∧ Aside (R = joinA acc (allF g bs j)))
  case atStart => exact ⟨0, [], rfl, by omega, by omega, by simp, World.ownsRow_nil _ _ _ _, Below.refl _ _, hR0⟩
  case round =>
    obtain ⟨j, acc, rfl, hg, hj, hacc, hown, hb1, hr⟩ := hrel
    have hsz1 := hb1.size
    by_cases hjn : j < n
    · obtain ⟨g, rfl⟩ : ∃ g, gk = g + 1 := ⟨gk - 1, by omega⟩
      have hjn' : (j : Int) < n := by omega
      have hB1 := HB.out.below hb1
      have hT1 := HT.out.keep hb1
      have hatM : atM bs (j : Int) = atN bs j := by rw [atM, if_neg (by omega), Int.toNat_natCast]
      obtain ⟨r, hrr⟩ : ∃ r, r = atN bs j := ⟨_, rfl⟩
      have hat := cat_any wr A bs cap j hT1 hcap (by have := HN.out; omega) hB1
      rw [hatM, ← hrr, ← HN.out] at hat
      have HAT := Lib.hid hat
      have hjl : j < bs.length := by have := HN.out; omega
      have HR := Lib.hid hrr
      clear hat hatM hrr hB1 hT1 hR0
      obtain ⟨o, err⟩ := r
      by_cases he : err = 0
      · subst he
        have hl := atN_len bs HV.out j (by rw [← HR.out])
        rw [← HR.out] at hl
        have hnext := joinA_ok acc g bs j hjl (by rw [← HR.out])
        rw [← HR.out] at hnext
        have HNX : Aside (R = joinA (acc ++ [o]) (allF g bs (j + o.l.toNat))) := by show _ = _; rw [hr.out]; exact hnext
        simp only at hl
        obtain ⟨q, hq⟩ : ∃ q : Nat, o.l = q := ⟨o.l.toNat, by omega⟩
        have HQ := Lib.hid hq
        rw [hq] at hl
        have hq1 : 1 ≤ q ∧ q ≤ 3 ∧ j + q ≤ n := by have := HN.out; omega
        clear hnext hq hl hjl hr
        go_wp2_with fail
        refine HAT.out.mono ?_
        rintro e w2 ⟨rfl, hb2⟩
        have hown2 := Owns.keep hown hb2
        have hb2' := hb1.trans (hb2.mono hsz1)
        have hsz2 := hb2'.size
        clear hown hb2 hb1 hsz1 HAT
        simp only
        rw [HQ.out]
        go_wp2_with (at_builtin; refine wpList_append_own _ rfl _ _ 31 rfl w.heap.size 25 i0 (.agg #[.int .i64 0, .int .i64 0, .int .i64 0, .int .i64 0]) 4 32 Tryd.underlying31 hi hz0 hz1 hz2 rfl (by decide) _ _ _ rfl ((hown2.alloc _).alloc _) ⟨w2.heap.size + 1, 0, none⟩ 1 1 [.int .i64 o.k, .int .i64 o.n, .int .i64 o.m, .int .i64 (q : Int)] rfl rfl ?c1 ?c2 ?c3 ?c4 ?c5 ?_)
        case c1 => exact (Blk.new2 w2 (.cells #[.int .i64 o.k, .int .i64 o.n, .int .i64 o.m, .int .i64 (q : Int)] 25) 25 #[.int .i64 o.k, .int .i64 o.n, .int .i64 o.m, .int .i64 (q : Int)]).row
        case c2 => intro u hu; simp at hu; rcases hu with rfl | rfl | rfl | rfl <;> rfl
        case c3 => unfold maxLen; omega
        case c4 => omega
        case c5 => simp; omega
        intro v' w3 hown' hgrow _
        have hlt := fun k hk => (hown2.lt k hk)
        have bo := ((Blk.new w2 25 #[.int .i64 o.k, .int .i64 o.n, .int .i64 o.m, .int .i64 (q : Int)]).alloc (.cells #[.int .i64 o.k, .int .i64 o.n, .int .i64 o.m, .int .i64 (q : Int)] 25)).grown hgrow (by
          intro e
          have := (hlt _ e.symm).2
          omega)
        have hb3 := ((hb2'.alloc (by omega) (.cells #[.int .i64 o.k, .int .i64 o.n, .int .i64 o.m, .int .i64 (q : Int)] 25)).alloc (by simp; omega) (.cells #[.int .i64 o.k, .int .i64 o.n, .int .i64 o.m, .int .i64 (q : Int)] 25)).grown hgrow (by simp; omega) (fun k hk => (hlt k hk).1)
        have c3 := bo.cell 3
        simp at c3
        have hown3 : Owns w3 w.heap.size v' (acc ++ [o]) := by
          have e1 : opCells (acc ++ [o]) = opCells acc ++ [.int .i64 o.k, .int .i64 o.n, .int .i64 o.m, .int .i64 (q : Int)] := by rw [opCells_snoc, O4.cells, HQ.out]
          have e2 : (acc ++ [o]).length = acc.length + 1 := by simp
          unfold Owns
          rw [e1, e2]
          exact hown'
        clear hown' hgrow hown2 hlt bo hb2' hi hz0 hz1 hz2
        go_wp2
        go_roundg g
        case measure => omega
        case rel =>
          refine ⟨j + q, acc ++ [o], by go_num, by omega, by omega, by simp; omega, hown3, hb3, ?_⟩
          have := HNX.out
          rw [HQ.out] at this
          exact this
      · have herr := joinA_err acc g bs j hjl (by rw [← HR.out]; exact he)
        rw [← HR.out] at herr
        have HE : Aside (R = ([], err)) := by show _ = _; rw [hr.out]; exact herr
        have he' : ((err : Int) == 0) = false := by simpa using he
        clear hi hz0 hz1 hz2 hjl hr herr he
        go_wp2_with fail
        refine HAT.out.mono ?_
        rintro e w2 ⟨rfl, hb2⟩
        go_wp2
        go_ret2
        rw [HE.out]
        exact ⟨_, rfl, World.ownsRow_nil _ _ _ _, (hb1.trans (hb2.mono hsz1)).alloc (by have := hb2.size; omega) _, fun _ => rfl⟩
    · have hjn' : ¬ ((j : Int) < n) := by omega
      have hdone : allF gk bs j = ([], 0) := allF_done gk bs j (by have := HN.out; omega)
      have HE : Aside (R = (acc, 0)) := by show _ = _; rw [hr.out, hdone, joinA, if_neg (by simp)]; simp
      clear hi hz0 hz1 hz2 hr hdone hR0
      go_wp2
      go_ret2
      rw [HE.out]
      exact ⟨_, rfl, hown, hb1, fun h => absurd rfl h⟩
end Go.Proofs.YtdbignfpmpohiaaDoor
