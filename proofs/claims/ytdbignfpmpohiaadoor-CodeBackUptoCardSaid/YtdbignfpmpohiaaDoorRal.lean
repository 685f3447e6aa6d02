/-
  The contract of websterref12.All: it tells 'allF'.
-/
import Derived.Test.YtdbignfpmpohiaaDoorAll
namespace Go.Proofs.YtdbignfpmpohiaaDoor
open Go.RowKit

set_option maxRecDepth 100000 in
set_option maxHeartbeats 2000000 in
theorem rall_any (w : World) (A : Option Addr) (bs : List Int) (cap : Nat) (hcap : cap ≤ 9223372036854775807) (hlen : bs.length ≤ cap) (hbig : bs.length ≤ 4194304) (hB : Byts w A bs) :
    Calls Tryd.prog 15 #[.slice A bs.length cap] w (AllPost (allM bs) w) := by
  obtain ⟨i0, hi, hz0, hz1, hz2⟩ := info_parts Tryd.info25
  have hv : ∀ v ∈ bs, 0 ≤ v ∧ v ≤ 255 := by
    intro v hv
    obtain ⟨j, hj⟩ := List.getElem?_of_mem hv
    obtain ⟨h1, h2, _⟩ := hB j v hj
    exact ⟨h1, h2⟩
  obtain ⟨n, hn⟩ : ∃ n, n = bs.length := ⟨_, rfl⟩
  obtain ⟨R, hR⟩ : ∃ R, R = allM bs := ⟨_, rfl⟩
  have hR0 : Aside (R = joinA [] (allF n bs 0)) := by
    show _ = _
    rw [hR, hn, joinA]
    split
    · rename_i h2
      have : (allM bs).1 = [] := by
        have key : ∀ f j, (allF f bs j).2 ≠ 0 → (allF f bs j).1 = [] := by
          intro f j h
          cases f with
          | zero => simp [allF] at h
          | succ f =>
            rw [allF] at h ⊢
            split at h
            · simp at h
            · rename_i h1
              rw [if_neg h1]
              split at h
              · rename_i h3; rw [if_pos h3]
              · rename_i h3
                rw [if_neg h3]
                split at h
                · rename_i h4; rw [if_pos h4]
                · simp at h
        exact key _ _ h2
      rw [← this]; rfl
    · rename_i h2
      simp at h2
      have : (allM bs).2 = 0 := h2
      rw [List.nil_append, ← this]; rfl
  rw [← hR]
  have HN := Lib.hid hn
  have HV := Lib.hid hv
  have HB := Lib.hid hB
  rw [← hn] at hlen hbig
  rw [← hn]
  clear hn hR hv hB
  go_enter Tryd.func15, Tryd.ntmps15
  go_wp2
  go_loopg [4, 5] n (fun g s4 s5 wr => ∃ (j : Nat) (acc : List O4), s5 = .int .i64 j ∧ n ≤ j + g ∧ j ≤ n ∧ acc.length ≤ j ∧ Owns wr w.heap.size s4 acc ∧ Below w.heap.size w wr ∧ Aside (R = joinA acc (allF g bs j)))
  case atStart => exact ⟨0, [], rfl, by omega, by omega, by simp, World.ownsRow_nil _ _ _ _, Below.refl _ _, hR0⟩
  case round =>
    obtain ⟨j, acc, rfl, hg, hj, hacc, hown, hb1, hr⟩ := hrel
    have hsz1 := hb1.size
    by_cases hjn : j < n
    · obtain ⟨g, rfl⟩ : ∃ g, gk = g + 1 := ⟨gk - 1, by omega⟩
      have hjn' : (j : Int) < n := by omega
      have hB1 := HB.out.below hb1
      have hatM : atM bs (j : Int) = atN bs j := by rw [atM, if_neg (by omega), Int.toNat_natCast]
      obtain ⟨r, hrr⟩ : ∃ r, r = atN bs j := ⟨_, rfl⟩
      have hat := rat_any wr A bs cap j hcap (by have := HN.out; omega) hB1
      rw [hatM, ← hrr, ← HN.out] at hat
      have HAT := Lib.hid hat
      have hjl : j < bs.length := by have := HN.out; omega
      have HR := Lib.hid hrr
      clear hat hatM hrr hB1 hR0
      obtain ⟨o, err⟩ := r
      by_cases he : err = 0
      · subst he
        have hl := atN_len bs HV.out j (by rw [← HR.out])
        rw [← HR.out] at hl
        have hnext := joinA_ok acc g bs j hjl (by rw [← HR.out])
        rw [← HR.out] at hnext
        have HNX : Aside (R = joinA (acc ++ [o]) (allF g bs (j + o.l.toNat))) := by show _ = _; rw [hr.out]; exact hnext
        simp only at hl
        obtain ⟨q, hq⟩ : ∃ q : Nat, o.l = q := ⟨o.l.toNat, by omega⟩
        have HQ := Lib.hid hq
        rw [hq] at hl
        have hq1 : 1 ≤ q ∧ q ≤ 3 ∧ j + q ≤ n := by have := HN.out; omega
        clear hnext hq hl hjl hr
        go_wp2_with fail
        refine HAT.out.mono ?_
        rintro e w2 ⟨rfl, hb2⟩
        have hown2 := Owns.keep hown hb2
        have hb2' := hb1.trans (hb2.mono hsz1)
        have hsz2 := hb2'.size
        clear hown hb2 hb1 hsz1 HAT
        simp only
        rw [HQ.out]
        go_wp2_with (at_builtin; refine wpList_append_own _ rfl _ _ 31 rfl w.heap.size 25 i0 (.agg #[.int .i64 0, .int .i64 0, .int .i64 0, .int .i64 0]) 4 32 Tryd.underlying31 hi hz0 hz1 hz2 rfl (by decide) _ _ _ rfl ((hown2.alloc _).alloc _) ⟨w2.heap.size + 1, 0, none⟩ 1 1 [.int .i64 o.k, .int .i64 o.n, .int .i64 o.m, .int .i64 (q : Int)] rfl rfl ?c1 ?c2 ?c3 ?c4 ?c5 ?_)
        case c1 => exact (Blk.new2 w2 (.cells #[.int .i64 o.k, .int .i64 o.n, .int .i64 o.m, .int .i64 (q : Int)] 25) 25 #[.int .i64 o.k, .int .i64 o.n, .int .i64 o.m, .int .i64 (q : Int)]).row
        case c2 => intro u hu; simp at hu; rcases hu with rfl | rfl | rfl | rfl <;> rfl
        case c3 => unfold maxLen; omega
        case c4 => omega
        case c5 => simp; omega
        intro v' w3 hown' hgrow _
        have hlt := fun k hk => (hown2.lt k hk)
        have bo := ((Blk.new w2 25 #[.int .i64 o.k, .int .i64 o.n, .int .i64 o.m, .int .i64 (q : Int)]).alloc (.cells #[.int .i64 o.k, .int .i64 o.n, .int .i64 o.m, .int .i64 (q : Int)] 25)).grown hgrow (by
          intro e
          have := (hlt _ e.symm).2
          omega)
        have hb3 := ((hb2'.alloc (by omega) (.cells #[.int .i64 o.k, .int .i64 o.n, .int .i64 o.m, .int .i64 (q : Int)] 25)).alloc (by simp; omega) (.cells #[.int .i64 o.k, .int .i64 o.n, .int .i64 o.m, .int .i64 (q : Int)] 25)).grown hgrow (by simp; omega) (fun k hk => (hlt k hk).1)
        have c3 := bo.cell 3
        simp at c3
        have hown3 : Owns w3 w.heap.size v' (acc ++ [o]) := by
          have e1 : opCells (acc ++ [o]) = opCells acc ++ [.int .i64 o.k, .int .i64 o.n, .int .i64 o.m, .int .i64 (q : Int)] := by rw [opCells_snoc, O4.cells, HQ.out]
          have e2 : (acc ++ [o]).length = acc.length + 1 := by simp
          unfold Owns
          rw [e1, e2]
          exact hown'
        clear hown' hgrow hown2 hlt bo hb2' hi hz0 hz1 hz2
        go_wp2
        go_roundg g
        case measure => omega
        case rel =>
          refine ⟨j + q, acc ++ [o], by go_num, by omega, by omega, by simp; omega, hown3, hb3, ?_⟩
          have := HNX.out
          rw [HQ.out] at this
          exact this
      · have herr := joinA_err acc g bs j hjl (by rw [← HR.out]; exact he)
        rw [← HR.out] at herr
        have HE : Aside (R = ([], err)) := by show _ = _; rw [hr.out]; exact herr
        have he' : ((err : Int) == 0) = false := by simpa using he
        clear hi hz0 hz1 hz2 hjl hr herr he
        go_wp2_with fail
        refine HAT.out.mono ?_
        rintro e w2 ⟨rfl, hb2⟩
        go_wp2
        go_ret2
        rw [HE.out]
        exact ⟨_, rfl, World.ownsRow_nil _ _ _ _, (hb1.trans (hb2.mono hsz1)).alloc (by have := hb2.size; omega) _, fun _ => rfl⟩
    · have hjn' : ¬ ((j : Int) < n) := by omega
      have hdone : allF gk bs j = ([], 0) := allF_done gk bs j (by have := HN.out; omega)
      have HE : Aside (R = (acc, 0)) := by show _ = _; rw [hr.out, hdone, joinA, if_neg (by simp)]; simp
      clear hi hz0 hz1 hz2 hr hdone hR0
      go_wp2
      go_ret2
      rw [HE.out]
      exact ⟨_, rfl, hown, hb1, fun h => absurd rfl h⟩
end Go.Proofs.YtdbignfpmpohiaaDoor
