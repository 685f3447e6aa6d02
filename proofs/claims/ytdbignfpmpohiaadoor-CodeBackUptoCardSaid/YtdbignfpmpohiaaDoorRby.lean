/-
  The contract of websterref12.Bytes: it tells 'bytesF', too.
-/
import Derived.Test.YtdbignfpmpohiaaDoorRon
namespace Go.Proofs.YtdbignfpmpohiaaDoor
open Go.RowKit

set_option maxRecDepth 100000 in
set_option maxHeartbeats 2000000 in
theorem rbytes_any (w : World) (A : Option Addr) (l : List O4) (cap : Nat) (hbig : l.length ≤ 4194304) (hA : OpsR w A l) :
    Calls Tryd.prog 20 #[.slice A l.length cap] w (BytPost (bytesF l) w) := by
  obtain ⟨i0, hi, hz0, hz1, hz2⟩ := info_parts Tryd.info5
  obtain ⟨n, hn⟩ : ∃ n, n = l.length := ⟨_, rfl⟩
  obtain ⟨R, hR⟩ : ∃ R, R = bytesF l := ⟨_, rfl⟩
  have hR0 : Aside (R = joinB [] (bytesF (l.drop 0))) := by show _ = _; rw [List.drop_zero, joinB_nil, hR]
  rw [← hR]
  have HN := Lib.hid hn
  have HA := Lib.hid hA
  rw [← hn] at hbig
  rw [← hn]
  clear hn hR hA
  go_enter Tryd.func20, Tryd.ntmps20
  go_wp2
  go_loopg [4, 5] n (fun g s3 s4 wr => ∃ (j : Nat) (acc : List Int), s4 = .int .i64 j ∧ j + g = n ∧ acc.length ≤ 3 * j ∧ OwnsB wr w.heap.size s3 acc ∧ Below w.heap.size w wr ∧ Aside (R = joinB acc (bytesF (l.drop j))))
  case atStart => exact ⟨0, [], rfl, by omega, by simp, World.ownsRow_nil _ _ _ _, Below.refl _ _, hR0⟩
  case round =>
    obtain ⟨j, acc, rfl, hg, hacc, hown, hb1, hr⟩ := hrel
    have hsz1 := hb1.size
    cases gk with
    | zero =>
      have hjn : ¬ ((j : Int) < n) := by omega
      have HE : Aside (R = (acc, 0)) := by
        show _ = _
        rw [hr.out, List.drop_eq_nil_of_le (by have := HN.out; omega), bytesF, joinB, if_neg (by simp), List.append_nil]
      clear hi hz0 hz1 hz2 hr hR0
      go_wp2
      go_ret2
      rw [HE.out]
      exact ⟨_, rfl, hown, hb1, fun h => absurd rfl h⟩
    | succ g =>
      have hjn : (j : Int) < n := by omega
      have hjl : j < l.length := by have := HN.out; omega
      obtain ⟨o, ho⟩ : ∃ o, l[j]? = some o := ⟨_, List.getElem?_eq_getElem hjl⟩
      have hops := HA.out.below hb1
      obtain ⟨b, off, rfl, hbl, c0, c1, c2, c3⟩ := hops j o ho
      have hdrop : l.drop j = o :: l.drop (j + 1) := by
        rw [List.drop_eq_getElem_cons hjl]
        rw [List.getElem?_eq_getElem hjl] at ho
        injection ho with ho
        rw [ho]
      have HONE := Lib.hid (rone_any o wr)
      have hr1 := hr.out
      rw [hdrop] at hr1
      have HR1 := Lib.hid hr1
      clear ho hdrop hr hr1 hjl hR0 hops
      go_wp2_with fail
      refine HONE.out.mono ?_
      rintro e w2 hpost
      obtain ⟨hb2, hcase⟩ := hpost
      have d0 := (hb2.cell (p := ⟨b, off + j * 4, none⟩) hbl).trans c0
      have hown2 : OwnsB w2 w.heap.size _ acc := OwnsB.keep hown hb2
      have hb2' := hb1.trans (hb2.mono hsz1)
      clear hown HONE hb1 c0 c1 c2 c3
      rcases hcase with ⟨hf, rfl⟩ | ⟨bs, gb, hf, rfl, hgb, bb⟩
      · have HE : Aside (R = ([], 2)) := by show _ = _; rw [HR1.out, joinB_none _ _ _ (Or.inl hf)]
        clear hf hb2 hi hz0 hz1 hz2
        go_wp2
        go_ret2
        rw [HE.out]
        exact ⟨_, rfl, World.ownsRow_nil _ _ _ _, hb2', fun _ => rfl⟩
      · by_cases hk : o.k = 0
        · have HE : Aside (R = ([], 2)) := by show _ = _; rw [HR1.out, joinB_none _ _ _ (Or.inr hk)]
          have hk' : (o.k == 0) = true := by simp [hk]
          clear hf hb2 hi hz0 hz1 hz2 hk
          go_wp2
          go_ret2
          rw [HE.out]
          exact ⟨_, rfl, World.ownsRow_nil _ _ _ _, hb2', fun _ => rfl⟩
        · have hk' : (o.k == 0) = false := by simp [hk]
          have hnext := joinB_some acc o (l.drop (j + 1)) bs hf hk
          have HNX : Aside (R = joinB (acc ++ bs) (bytesF (l.drop (j + 1)))) := by show _ = _; rw [HR1.out, hnext]
          have hlen := findM_len o bs hf
          have hsz2 := hb2'.size
          have hrow := bb.row
          have HROW := Lib.hid hrow
          clear hf hb2 hk hnext HR1 hrow
          go_wp2_with (at_builtin; refine wpList_append_own _ rfl _ _ 22 rfl w.heap.size 5 i0 (.int .u8 0) 1 1 Tryd.underlying22 hi hz0 hz1 hz2 rfl (by decide) _ _ _ rfl hown2 ⟨gb, 0, none⟩ bs.length bs.length (bs.map (Value.int .u8)) rfl ?c0 ?c1 ?c2 ?c3 ?c4 ?c5 ?_)
          case c0 => simp
          case c1 => exact HROW.out
          case c2 =>
            intro u hu
            obtain ⟨x, _, rfl⟩ := List.mem_map.1 hu
            rfl
          case c3 => unfold maxLen; omega
          case c4 => omega
          case c5 => omega
          intro v' w3 hown' hgrow _
          have hlt := fun k hk => (hown2.lt k hk)
          have hb3 := hb2'.grown hgrow hsz2 (fun k hk => (hlt k hk).1)
          have hown3 : OwnsB w3 w.heap.size v' (acc ++ bs) := by
            unfold OwnsB
            rw [List.length_append, List.map_append]
            exact hown'
          clear hown' hgrow hown2 hlt hb2' hi hz0 hz1 hz2 hsz2
          go_wp2
          go_roundg g
          case measure => omega
          case rel => exact ⟨j + 1, acc ++ bs, by go_num, by omega, by rw [List.length_append]; omega, hown3, hb3, HNX⟩
end Go.Proofs.YtdbignfpmpohiaaDoor
