/-
  The contract of code.Bytes: it tells 'bytesF'.
-/
import Derived.Test.YtdbignfpmpohiaaDoorFnd
namespace Go.Proofs.YtdbignfpmpohiaaDoor
open Go.RowKit

/-- the bytes that tell all of them -/
def bytesF : List O4 → List Int × Int
  | [] => ([], 0)
  | o :: r => match findM o with
    | none => ([], 2)
    | some bs => if o.k = 0 then ([], 2) else if (bytesF r).2 ≠ 0 then ([], (bytesF r).2) else (bs ++ (bytesF r).1, 0)
def joinB (acc : List Int) (r : List Int × Int) : List Int × Int := if r.2 ≠ 0 then ([], r.2) else (acc ++ r.1, 0)

theorem bytesF_err (l : List O4) (h : (bytesF l).2 ≠ 0) : (bytesF l).1 = [] := by
  cases l with
  | nil => simp [bytesF] at h
  | cons o r =>
    rw [bytesF] at h ⊢
    split at h
    · rename_i h1; rfl
    · rename_i bs h1
      split at h
      · rename_i h2; rw [if_pos h2]
      · rename_i h2
        rw [if_neg h2]
        split at h
        · rename_i h3; rw [if_pos h3]
        · simp at h
theorem joinB_nil (l : List O4) : joinB [] (bytesF l) = bytesF l := by
  rw [joinB]
  split
  · rename_i h; rw [← bytesF_err l h]
  · rename_i h
    simp at h
    rw [List.nil_append, ← h]
theorem joinB_none (acc : List Int) (o : O4) (r : List O4) (h : findM o = none ∨ o.k = 0) : joinB acc (bytesF (o :: r)) = ([], 2) := by
  have e : bytesF (o :: r) = ([], 2) := by
    rw [bytesF]
    rcases h with h | h
    · rw [h]
    · split
      · rfl
      · rw [if_pos h]
  rw [e, joinB, if_pos (by simp)]
theorem joinB_some (acc : List Int) (o : O4) (r : List O4) (bs : List Int) (h : findM o = some bs) (hk : o.k ≠ 0) : joinB acc (bytesF (o :: r)) = joinB (acc ++ bs) (bytesF r) := by
  rw [bytesF, h]
  simp only [if_neg hk]
  split
  · rename_i h2; rw [joinB, if_pos h2, joinB, if_pos h2]
  · rename_i h2; rw [joinB, if_neg (by simp), joinB, if_neg h2, List.append_assoc]

theorem findM_len (o : O4) (bs : List Int) (h : findM o = some bs) : 1 ≤ bs.length ∧ bs.length ≤ 3 := by
  unfold findM then1 at h
  split at h
  · injection h with h; subst h; simp
  · unfold then2 at h
    split at h
    · injection h with h; subst h; simp
    · unfold find3 at h
      split at h
      · injection h with h; subst h; simp
      · cases h

theorem eql_nil (W : World) (a : Option Addr) (n c : Nat) : (binOp .eql 22 (.slice a n c) (.slice none 0 0)).run Tryd.prog W = .ok (.bool a.isNone) W := by
  have h : ∀ d : Nat, (Op.equalIn (d + 1) 22 (.slice a n c) (.slice none 0 0)).run Tryd.prog W = .ok a.isNone W := fun d => by
    cases a <;> simp [Op.equalIn, run_underlying Tryd.underlying22]
  simp only [binOp]
  simp [Op.equal, Op.maxDepth, h 9999]

/-- bytes in memory of the call's own -/
def OwnsB (w : World) (B : Nat) (v : Value) (l : List Int) : Prop := w.ownsRow B 5 1 v l.length (l.map (Value.int .u8))
theorem OwnsB.keep {w w' : World} {B : Nat} {v : Value} {l : List Int} (h : OwnsB w B v l) (hb : Below w.heap.size w w') : OwnsB w' B v l :=
  World.ownsRow.kept h (only_of_below hb none) (by cases v.ownBlock <;> simp)

/-- what Bytes leaves -/
def BytPost (r : List Int × Int) (w : World) (e : Ending) (w' : World) : Prop :=
  ∃ v, e = .returned (.tuple #[v, .int .i64 r.2]) ∧ OwnsB w' w.heap.size v r.1 ∧ Below w.heap.size w w' ∧ (r.2 ≠ 0 → v = .slice none 0 0)

theorem Tryd.info5 : (Tryd.prog.info? 5).map (fun i => (i.zero, i.size, i.bytes)) = some (some (.int .u8 0), 1, 1) := by kernel_rfl

set_option maxRecDepth 100000 in
set_option maxHeartbeats 2000000 in
theorem bytes_any (w : World) (A : Option Addr) (l : List O4) (cap : Nat) (ht : Tabs w) (hbig : l.length ≤ 4194304) (hA : OpsR w A l) :
    Calls Tryd.prog 19 #[.slice A l.length cap] w (BytPost (bytesF l) w) := by
  obtain ⟨i0, hi, hz0, hz1, hz2⟩ := info_parts Tryd.info5
  have hnil := eql_nil
  obtain ⟨n, hn⟩ : ∃ n, n = l.length := ⟨_, rfl⟩
  obtain ⟨R, hR⟩ : ∃ R, R = bytesF l := ⟨_, rfl⟩
  have hR0 : Aside (R = joinB [] (bytesF (l.drop 0))) := by show _ = _; rw [List.drop_zero, joinB_nil, hR]
  rw [← hR]
  have HN := Lib.hid hn
  have HA := Lib.hid hA
  have HT := Lib.hid ht
  rw [← hn] at hbig
  rw [← hn]
  clear hn hR hA ht
  go_enter Tryd.func19, Tryd.ntmps19
  go_wp2
  go_loopg [4, 10] n (fun g s4 s10 wr => ∃ (j : Nat) (acc : List Int), s10 = .int .i64 j ∧ j + g = n ∧ acc.length ≤ 3 * j ∧ OwnsB wr w.heap.size s4 acc ∧ Below w.heap.size w wr ∧ Aside (R = joinB acc (bytesF (l.drop j))))
  case atStart => exact ⟨0, [], rfl, by omega, by simp, World.ownsRow_nil _ _ _ _, Below.refl _ _, hR0⟩
  case round =>
    obtain ⟨j, acc, rfl, hg, hacc, hown, hb1, hr⟩ := hrel
    have hsz1 := hb1.size
    cases gk with
    | zero =>
      have hjn : ¬ ((j : Int) < n) := by omega
      have HE : Aside (R = (acc, 0)) := by
        show _ = _
        rw [hr.out, List.drop_eq_nil_of_le (by have := HN.out; omega), bytesF, joinB, if_neg (by simp), List.append_nil]
      clear hi hz0 hz1 hz2 hr hR0 hnil
      go_wp2
      go_ret2
      rw [HE.out]
      exact ⟨_, rfl, hown, hb1, fun h => absurd rfl h⟩
    | succ g =>
      have hjn : (j : Int) < n := by omega
      have hjl : j < l.length := by have := HN.out; omega
      obtain ⟨o, ho⟩ : ∃ o, l[j]? = some o := ⟨_, List.getElem?_eq_getElem hjl⟩
      obtain ⟨b, off, rfl, _, c0, c1, c2, c3⟩ := (HA.out.below hb1) j o ho
      have hdrop : l.drop j = o :: l.drop (j + 1) := by
        rw [List.drop_eq_getElem_cons hjl]
        rw [List.getElem?_eq_getElem hjl] at ho
        injection ho with ho
        rw [ho]
      have hfind := find_any o (wr.alloc (.cells #[.int .i64 o.k, .int .i64 o.n, .int .i64 o.m, .int .i64 o.l] 25)) ((HT.out.keep hb1).alloc _)
      have HFND := Lib.hid hfind
      have hr1 := hr.out
      rw [hdrop] at hr1
      have HR1 := Lib.hid hr1
      have bo := Blk.new wr 25 #[.int .i64 o.k, .int .i64 o.n, .int .i64 o.m, .int .i64 o.l]
      clear ho hdrop hfind hr hr1 hjl hR0
      go_wp2_with fail
      refine HFND.out.mono ?_
      rintro e w2 hpost
      obtain ⟨hb2, hcase⟩ := hpost
      have bo2 := bo.keep hb2
      have d0 := bo2.cell 0
      simp at d0
      have hown2 := (World.ownsRow.alloc hown (.cells #[.int .i64 o.k, .int .i64 o.n, .int .i64 o.m, .int .i64 o.l] 25))
      have hown2' : OwnsB w2 w.heap.size _ acc := OwnsB.keep hown2 hb2
      have hb2' := (hb1.alloc hsz1 (.cells #[.int .i64 o.k, .int .i64 o.n, .int .i64 o.m, .int .i64 o.l] 25)).trans (hb2.mono (by simp; omega))
      clear hown hown2 bo bo2 HFND hb1
      rcases hcase with ⟨hf, rfl⟩ | ⟨bs, gb, hf, rfl, hgb, bb⟩
      · have HE : Aside (R = ([], 2)) := by show _ = _; rw [HR1.out, joinB_none _ _ _ (Or.inl hf)]
        clear hf hb2 hi hz0 hz1 hz2
        go_wp2
        go_ret2
        rw [HE.out]
        exact ⟨_, rfl, World.ownsRow_nil _ _ _ _, hb2', fun _ => rfl⟩
      · by_cases hk : o.k = 0
        · have HE : Aside (R = ([], 2)) := by show _ = _; rw [HR1.out, joinB_none _ _ _ (Or.inr hk)]
          have hk' : (o.k == 0) = true := by simp [hk]
          clear hf hb2 hi hz0 hz1 hz2 hk
          go_wp2
          go_ret2
          rw [HE.out]
          exact ⟨_, rfl, World.ownsRow_nil _ _ _ _, hb2', fun _ => rfl⟩
        · have hk' : (o.k == 0) = false := by simp [hk]
          have hnext := joinB_some acc o (l.drop (j + 1)) bs hf hk
          have HNX : Aside (R = joinB (acc ++ bs) (bytesF (l.drop (j + 1)))) := by show _ = _; rw [HR1.out, hnext]
          have hlen := findM_len o bs hf
          have hsz2 := hb2'.size
          have hrow := bb.row
          have HROW := Lib.hid hrow
          clear hf hb2 hk hnext HR1 hrow
          go_wp2_with (at_builtin; refine wpList_append_own _ rfl _ _ 22 rfl w.heap.size 5 i0 (.int .u8 0) 1 1 Tryd.underlying22 hi hz0 hz1 hz2 rfl (by decide) _ _ _ rfl hown2' ⟨gb, 0, none⟩ bs.length bs.length (bs.map (Value.int .u8)) rfl ?c0 ?c1 ?c2 ?c3 ?c4 ?c5 ?_)
          case c0 => simp
          case c1 => exact HROW.out
          case c2 =>
            intro u hu
            obtain ⟨x, _, rfl⟩ := List.mem_map.1 hu
            rfl
          case c3 => unfold maxLen; omega
          case c4 => omega
          case c5 => omega
          intro v' w3 hown' hgrow _
          have hlt := fun k hk => (hown2'.lt k hk)
          have hb3 := hb2'.grown hgrow hsz2 (fun k hk => (hlt k hk).1)
          have hown3 : OwnsB w3 w.heap.size v' (acc ++ bs) := by
            unfold OwnsB
            rw [List.length_append, List.map_append]
            exact hown'
          clear hown' hgrow hown2' hlt hb2' hi hz0 hz1 hz2 hsz2
          go_wp2
          go_roundg g
          case measure => omega
          case rel => exact ⟨j + 1, acc ++ bs, by go_num, by omega, by rw [List.length_append]; omega, hown3, hb3, HNX⟩
end Go.Proofs.YtdbignfpmpohiaaDoor
