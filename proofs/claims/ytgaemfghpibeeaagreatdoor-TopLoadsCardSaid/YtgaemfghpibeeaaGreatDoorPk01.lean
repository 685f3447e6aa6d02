/-
  How words and blocks lie in memory; code.one and code.more, ref.op answer by their tables. Conditions: each theorem names its own.
-/
import Derived.Deep.Draws
import Derived.Deep.LoopGhost
import Derived.Laws.Rows
import Derived.Lib.Hide
import Derived.Test.YtgaemfghpibeeaaGreatDoorRows
import Derived.WalkKit
import Derived.WalkLawsBesides
import Derived.WalkSpells
set_option maxRecDepth 100000
set_option maxHeartbeats 6000000
open Go.Lib (hid)
open List (getElem?_eq_getElem mem_of_getElem? getElem?_append_left getElem?_append_right getD_eq_getElem?_getD eq_nil_of_length_eq_zero getElem?_eq_none_iff length_replicate take_of_length_le length_set length_append)
namespace Go.Proofs.YtgaemfghpibeeaaGreatDoor
theorem qTa {α : Type _} (l : List α) (i : Nat) : l.toArray[i]? = l[i]? := List.getElem?_toArray
theorem qTb {α : Type _} {a : α} {l : List α} : (a :: l)[0]? = some a := List.getElem?_cons_zero
theorem qTc {α : Type _} {a : α} {l : List α} {i : Nat} : (a :: l)[i + 1]? = l[i]? := List.getElem?_cons_succ
end Go.Proofs.YtgaemfghpibeeaaGreatDoor
namespace Go.Proofs.YtgaemfghpibeeaaGreatDoor
open Go.RowKit
def Blk (w : World) (g : Nat) (t : TypeId) (cs : Array Value) : Prop:=w.heap[g]? = some (.cells cs t (0, 0))
section
variable {w w' : World} {g : Nat} {t : TypeId} {cs : Array Value}
theorem Blk.lt (h : Blk w g t cs) : g < w.heap.size:=by
 rcases Nat.lt_or_ge g w.heap.size with hlt | hge
 ·exact hlt
 ·unfold Blk at h; rw [Array.getElem?_eq_none hge] at h; cases h
theorem Blk.cell (h : Blk w g t cs) (i : Nat) : w.cell? ⟨g, i, none⟩ = cs[i]?:=cell_of_row w g i cs t (0, 0) h
theorem Blk.frozen (h : Blk w g t cs) (i : Nat) : w.frozen? ⟨g, i, none⟩ = false:=by unfold Blk at h;simp [World.frozen?, h]
theorem Blk.new (w : World) (t : TypeId) (cs : Array Value) : Blk (w.alloc (.cells cs t)) w.heap.size t cs:=heap_alloc_new w _
theorem Blk.drew (h : Blk w g t cs) : Blk w.drew g t cs:=h
theorem Blk.drewN (h : Blk w g t cs) (n : Nat) : Blk (w.drewN n) g t cs:=h
theorem Blk.alloc (h : Blk w g t cs) (o : Obj) : Blk (w.alloc o) g t cs:=(Below.heap_alloc w o g h.lt).trans h
theorem Blk.set_ (h : Blk w g t cs) (i : Nat) (u : Value) : Blk (w.setCell ⟨g, i, none⟩ u) g t (cs.setIfInBounds i u):=by unfold Blk at h ⊢;simp [World.setCell, Array.getElem?_modify, h]
theorem Blk.far (h : Blk w g t cs) {p : Addr} (hp : g ≠ p.block) (u : Value) : Blk (w.setCell p u) g t cs:=(Below.heap_setCell w p u g hp).trans h
end
theorem below_drewN {B : Nat} {a w : World} (h : Below B a w) (n : Nat) : Below B a (w.drewN n):=⟨h.os, h.tape, h.output, h.size, h.block⟩
def Byts (w : World) (A : Option Addr) (bs : List Int) : Prop :=
 ∀ j v, bs[j]? = some v -> 0 <= v /\ v <= 255 /\ ∃ b off, A = some ⟨b, off, none⟩ /\ b < w.heap.size /\ w.cell? ⟨b, off + j, none⟩ = some (.int .u8 v)
theorem Byts.below {w w' : World} {A : Option Addr} {bs : List Int} (h : Byts w A bs) (hb : Below w.heap.size w w') : Byts w' A bs:=by intro j v hv;obtain ⟨h1, h2, b, off, hA, hl, hc⟩:=h j v hv;exact ⟨h1, h2, b, off, hA, Nat.lt_of_lt_of_le hl hb.size, (hb.cell (p:=⟨b, off + j, none⟩) hl).trans hc⟩
theorem Byts.alloc {w : World} {A : Option Addr} {bs : List Int} (h : Byts w A bs) (o : Obj) : Byts (w.alloc o) A bs:=h.below ((Below.refl _ w).alloc (Nat.le_refl _) o)
theorem Blk.below {w w' : World} {B g : Nat} {t : TypeId} {cs : Array Value} (h : Blk w g t cs) (hb : Below B w w') (hg : g < B) : Blk w' g t cs:=(hb.block g hg).trans h
theorem Blk.keep {w w' : World} {g : Nat} {t : TypeId} {cs : Array Value} (h : Blk w g t cs) (hb : Below w.heap.size w w') : Blk w' g t cs:=h.below hb h.lt
end Go.Proofs.YtgaemfghpibeeaaGreatDoor
namespace Go.Proofs.YtgaemfghpibeeaaGreatDoor
open Go.RowKit
structure O4 where
 k : Int
 n : Int
 m : Int
 l : Int
deriving DecidableEq
def spansA : Array Value:=#[.int .i64 0, .int .i64 15, .int .i64 1, .int .i64 16, .int .i64 31, .int .i64 2, .int .i64 32, .int .i64 63, .int .i64 3, .int .i64 64, .int .i64 95, .int .i64 4, .int .i64 96, .int .i64 103, .int .i64 8, .int .i64 104, .int .i64 111, .int .i64 9, .int .i64 176, .int .i64 191, .int .i64 25, .int .i64 192, .int .i64 207, .int .i64 26]
def storesA : Array Value:=#[.int .i64 1, .int .i64 2, .int .i64 3, .int .i64 4, .int .i64 5, .int .i64 6, .int .i64 0, .int .i64 7, .int .i64 8, .int .i64 9, .int .i64 0, .int .i64 10]
def Tabs (w : World) : Prop:=(∃ t fr, w.heap[0]? = some (.cells spansA t fr)) /\ ∃ t fr, w.heap[1]? = some (.cells storesA t fr)
theorem Tabs.lt {w : World} (h : Tabs w) : 1 < w.heap.size:=by obtain ⟨_, t, fr, h1⟩:=h;exact (Array.getElem?_eq_some_iff.1 h1).1
theorem Tabs.below {B : Nat} {w w' : World} (h : Tabs w) (hb : Below B w w') (hB : 1 < B) : Tabs w':=by obtain ⟨⟨t, fr, h0⟩, t', fr', h1⟩:=h;exact ⟨⟨t, fr, (hb.block 0 (by omega)).trans h0⟩, t', fr', (hb.block 1 hB).trans h1⟩
theorem Tabs.keep {w w' : World} (h : Tabs w) (hb : Below w.heap.size w w') : Tabs w':=h.below hb h.lt
theorem Tabs.alloc {w : World} (h : Tabs w) (o : Obj) : Tabs (w.alloc o):=h.keep ((Below.refl _ w).alloc (Nat.le_refl _) o)
theorem Tabs.store {w : World} (h : Tabs w) (i : Nat) (v : Value) (hv : storesA[i]? = some v) : w.cell? ⟨1, i, none⟩ = some v:=by obtain ⟨_, t, fr, h1⟩:=h;exact (cell_of_row w 1 i storesA t fr h1).trans hv
def constM (k : Int) : Int:=if k = 1 then 4 else if k = 2 then 6 else if k = 3 then 2 else 2 * (k - 5) + 1
theorem const_any (k : Int) (w : World) (h : 1 <= k /\ k <= 7) :
  Calls Tryz.prog 143 #[.int .i64 k] w fun e w' => e = .returned (.int .i64 (constM k)) /\ w = w':=by
 by_cases h1 : k = 1
 ·subst h1;go_enter Tryz.func143, Tryz.ntmps143;go_wp2;go_ret;exact ⟨rfl, rfl⟩
 by_cases h2 : k = 2
 ·subst h2;go_enter Tryz.func143, Tryz.ntmps143;go_wp2;go_ret;exact ⟨rfl, rfl⟩
 by_cases h3 : k = 3
 ·subst h3;go_enter Tryz.func143, Tryz.ntmps143;go_wp2;go_ret;exact ⟨rfl, rfl⟩
 have e : constM k = 2 * (k - 5) + 1:=by simp [constM, h1, h2, h3]
 have H:=hid e;clear e;go_enter Tryz.func143, Tryz.ntmps143;go_wp2;go_ret;exact ⟨by rw [H.out]; rfl, rfl⟩
def oneM (c : Int) : O4 × Bool :=
 if c <= 15 then (⟨1, c, 0, 1⟩, true)
 else if c <= 31 then (⟨2, c - 16, 0, 1⟩, true)
 else if c <= 63 then (⟨3, c - 32, 0, 1⟩, true)
 else if c <= 95 then (⟨4, c - 64, 0, 1⟩, true)
 else if c <= 103 then (⟨8, c - 96, 0, 1⟩, true)
 else if c <= 111 then (⟨9, c - 104, 0, 1⟩, true)
 else if 176 <= c /\ c <= 191 then (⟨25, c - 176, 0, 1⟩, true)
 else if 192 <= c /\ c <= 207 then (⟨26, c - 192, 0, 1⟩, true)
 else if c = 112 then (⟨11, 0, 0, 1⟩, true)
 else if c < 120 then (⟨12, constM (c - 112), 0, 1⟩, true)
 else if c = 120 then (⟨13, 0, 0, 1⟩, true)
 else if c < 124 then (⟨14, constM (c - 120), 0, 1⟩, true)
 else if c <= 125 then (⟨15 + c - 124, 0, 0, 1⟩, true)
 else if 135 <= c /\ c <= 137 then (⟨19 + c - 135, 0, 0, 1⟩, true)
 else if 144 <= c /\ c < 152 then (⟨22, c - 143, 0, 1⟩, true)
 else if 152 <= c /\ c < 160 then (⟨24, c - 151, 0, 1⟩, true)
 else if 208 <= c then (⟨17, c % 16, (c - 208) / 16, 1⟩, true)
 else (⟨0, 0, 0, 1⟩, decide (c < 128 \/ 175 < c \/ (138 <= c /\ c < 144)))
def Ret2 (r : O4 × Bool) (w : World) (e : Ending) (w' : World) : Prop :=
 e = .returned (.tuple #[.agg #[.int .i64 r.1.k, .int .i64 r.1.n, .int .i64 r.1.m, .int .i64 r.1.l], .bool r.2]) /\ Below w.heap.size w w'
def spanAt : Nat -> Int × Int
 | 0 => (0, 15) | 1 => (16, 31) | 2 => (32, 63) | 3 => (64, 95) | 4 => (96, 103) | 5 => (104, 111) | 6 => (176, 191) | _ => (192, 207)
def past (j : Nat) (c : Int) : Prop:=∀ i, i < j -> ¬ ((spanAt i).1 <= c /\ c <= (spanAt i).2)
theorem past_next {j : Nat} {c : Int} (h : past j c) (h2 : ¬ ((spanAt j).1 <= c /\ c <= (spanAt j).2)) : past (j + 1) c:=by
 intro i hi;rcases Nat.lt_or_ge i j with e | e
 ·exact h i e
 ·obtain rfl : i = j:=by omega
  exact h2
def lowOf : Nat -> Int
 | 0 => 0 | 1 => 16 | 2 => 32 | 3 => 64 | 4 => 96 | 5 => 104 | _ => 112
theorem past_low {j : Nat} {c : Int} (h : past j c) (h0 : 0 <= c) (hj : j <= 6) : lowOf j <= c:=by
 match j, hj with
 | 0, _ => simp only [lowOf]; exact h0
 | 1, _ => have a:=h 0 (by omega); simp only [spanAt] at a; simp only [lowOf]; omega
 | 2, _ => have a:=h 0 (by omega); have b:=h 1 (by omega); simp only [spanAt] at a b; simp only [lowOf]; omega
 | 3, _ => have a:=h 0 (by omega); have b:=h 1 (by omega); have d:=h 2 (by omega); simp only [spanAt] at a b d; simp only [lowOf]; omega
 | 4, _ => have a:=h 0 (by omega); have b:=h 1 (by omega); have d:=h 2 (by omega); have e:=h 3 (by omega); simp only [spanAt] at a b d e; simp only [lowOf]; omega
 | 5, _ => have a:=h 0 (by omega); have b:=h 1 (by omega); have d:=h 2 (by omega); have e:=h 3 (by omega); have f:=h 4 (by omega); simp only [spanAt] at a b d e f; simp only [lowOf]; omega
 | 6, _ => have a:=h 0 (by omega); have b:=h 1 (by omega); have d:=h 2 (by omega); have e:=h 3 (by omega); have f:=h 4 (by omega); have g:=h 5 (by omega); simp only [spanAt] at a b d e f g; simp only [lowOf]; omega
theorem pick0 (w : World) : (Instr.index 262 (.agg spansA) (.int .i64 0)).run Tryz.prog w = .ok (.agg #[.int .i64 0, .int .i64 15, .int .i64 1]) w:=by kernel_rfl
theorem pick1 (w : World) : (Instr.index 262 (.agg spansA) (.int .i64 1)).run Tryz.prog w = .ok (.agg #[.int .i64 16, .int .i64 31, .int .i64 2]) w:=by kernel_rfl
theorem pick2 (w : World) : (Instr.index 262 (.agg spansA) (.int .i64 2)).run Tryz.prog w = .ok (.agg #[.int .i64 32, .int .i64 63, .int .i64 3]) w:=by kernel_rfl
theorem pick3 (w : World) : (Instr.index 262 (.agg spansA) (.int .i64 3)).run Tryz.prog w = .ok (.agg #[.int .i64 64, .int .i64 95, .int .i64 4]) w:=by kernel_rfl
theorem pick4 (w : World) : (Instr.index 262 (.agg spansA) (.int .i64 4)).run Tryz.prog w = .ok (.agg #[.int .i64 96, .int .i64 103, .int .i64 8]) w:=by kernel_rfl
theorem pick5 (w : World) : (Instr.index 262 (.agg spansA) (.int .i64 5)).run Tryz.prog w = .ok (.agg #[.int .i64 104, .int .i64 111, .int .i64 9]) w:=by kernel_rfl
theorem pick6 (w : World) : (Instr.index 262 (.agg spansA) (.int .i64 6)).run Tryz.prog w = .ok (.agg #[.int .i64 176, .int .i64 191, .int .i64 25]) w:=by kernel_rfl
theorem pick7 (w : World) : (Instr.index 262 (.agg spansA) (.int .i64 7)).run Tryz.prog w = .ok (.agg #[.int .i64 192, .int .i64 207, .int .i64 26]) w:=by kernel_rfl
theorem results_cell_tmp {P : Program} {fn : Func} {p q : Tmp} {ty : TypeId} (h : fn.results = #[.cell p ty, .tmp q]) (tmps : Array Value) (w : World) (g : Nat) (t : TypeId) (cs : Array Value) (fr : Nat × Nat) (d : TypeDesc)
  (hp : tmps.getD p undef = .pointer (some ⟨g, 0, none⟩)) (hg : w.heap[g]? = some (.cells cs t fr))
  (hu : P.underlying ty = some d) (hd : (match d with | .struct _ | .array _ _ => true | _ => false) = true) (hi : (P.info? ty).map (·.size) = some cs.size) :
  (results fn tmps).run P w = .ok (.tuple #[.agg cs, tmps.getD q undef]) w:=by
 have hp' : tmps[p]?.getD undef = .pointer (some ⟨g, 0, none⟩):=by simpa using hp
 simp [results, h, hp', asAddr, run_loadVar_row w g t ty cs fr d hg hu hd hi]
theorem Blk.set4 {w : World} {g : Nat} {t : TypeId} {x0 x1 x2 x3 : Value} (h : Blk w g t #[x0, x1, x2, x3]) (a b c d : Value) :
  Blk ((((w.setCell ⟨g, 0, none⟩ a).setCell ⟨g, 1, none⟩ b).setCell ⟨g, 2, none⟩ c).setCell ⟨g, 3, none⟩ d) g t #[a, b, c, d]:=by
 simpa using (((h.set_ 0 a).set_ 1 b).set_ 2 c).set_ 3 d
theorem below_set4 {B : Nat} {a w : World} (h : Below B a w) {g : Nat} (hg : B <= g) (p q r s : Value) :
  Below B a ((((w.setCell ⟨g, 0, none⟩ p).setCell ⟨g, 1, none⟩ q).setCell ⟨g, 2, none⟩ r).setCell ⟨g, 3, none⟩ s) :=
 (((h.setCell (p:=⟨g, 0, none⟩) hg _).setCell (p:=⟨g, 1, none⟩) hg _).setCell (p:=⟨g, 2, none⟩) hg _).setCell (p:=⟨g, 3, none⟩) hg _
theorem size25 : (Tryz.prog.info? 139).map (·.size) = some 4:=by kernel_rfl
theorem one_any (c : Int) (w : World) (ht : Tabs w) (h : 0 <= c /\ c <= 255) :
  Calls Tryz.prog 140 #[.int .i64 c] w (Ret2 (oneM c) w):=by
 obtain ⟨⟨t0, fr0, hg0⟩, _⟩:=ht;obtain ⟨A, hA⟩ : ∃ A, A = spansA:=⟨_, rfl⟩;rw [<- hA] at hg0;have hsz : (Tryz.prog.info? 262).map (·.size) = some A.size:=by rw [hA]; kernel_rfl
 have hlt : 0 < w.heap.size:=(Array.getElem?_eq_some_iff.1 hg0).1;have p0:=fun W => pick0 W;have p1:=fun W => pick1 W;have p2:=fun W => pick2 W;have p3:=fun W => pick3 W;have p4:=fun W => pick4 W;have p5:=fun W => pick5 W;have p6:=fun W => pick6 W;have p7:=fun W => pick7 W;rw [<- hA] at p0 p1 p2 p3 p4 p5 p6 p7;have P:=hid (And.intro p0 (And.intro p1 (And.intro p2 (And.intro p3 (And.intro p4 (And.intro p5 (And.intro p6 p7)))))));have hgw : ((w.alloc (.cells #[.int .i64 0, .int .i64 0, .int .i64 0, .int .i64 0] 139))).heap[0]? = some (.cells A t0 fr0):=(Below.heap_alloc w _ 0 hlt).trans hg0;have HGW:=hid hgw;have HSZ:=hid hsz;clear hA hsz hgw hg0 p0 p1 p2 p3 p4 p5 p6 p7;go_enter Tryz.func140, Tryz.ntmps140;go_wp2_with (refine wpList_load_row rfl 262 _ rfl 0 rfl t0 A fr0 _ HGW.out Tryz.underlying262 rfl HSZ.out ?_);clear HGW HSZ;obtain ⟨w0, hw0⟩ : ∃ w0, w0 = w.alloc (.cells #[.int .i64 0, .int .i64 0, .int .i64 0, .int .i64 0] 139):=⟨_, rfl⟩;have b0 : Blk w0 w.heap.size 139 #[.int .i64 0, .int .i64 0, .int .i64 0, .int .i64 0]:=by rw [hw0]; exact Blk.new w 139 _
 have hb0 : Below w.heap.size w w0:=by rw [hw0]; exact (Below.refl _ w).alloc (Nat.le_refl _) _
 rw [<- hw0];clear hw0;go_loopg [8] 8 (fun g s8 wr => ∃ j : Nat, j + g = 8 /\ s8 = .int .i64 j /\ Aside (past j c) /\ Blk wr w.heap.size 139 #[.int .i64 0, .int .i64 0, .int .i64 0, .int .i64 0] /\ Below w.heap.size w wr)
 case atStart => exact ⟨0, rfl, rfl, fun i hi => absurd hi (by omega), b0, hb0⟩
 case round =>
  clear b0 hb0;obtain ⟨j, hj, rfl, hp, b1, hb1⟩:=hrel;have hsz1:=b1.lt;have f1:=b1.frozen;have c0:=b1.cell 0;have c1:=b1.cell 1;have c2:=b1.cell 2;have c3:=b1.cell 3;simp at c0 c1 c2 c3;cases gk with
  | zero =>
   obtain rfl : j = 8:=by omega
   have hl:=past_low (fun i hi => hp.out i (by omega)) h.1 (Nat.le_refl 6);have h6:=hp.out 6 (by omega);have h7:=hp.out 7 (by omega);simp only [spanAt, lowOf] at hl h6 h7;clear P;have hcut : c = 112 \/ (112 < c /\ c < 120) \/ c = 120 \/ (120 < c /\ c < 124) \/ c = 124 \/ c = 125 \/ (126 <= c /\ c < 128) \/ (128 <= c /\ c < 135) \/ (135 <= c /\ c <= 137) \/ (138 <= c /\ c < 144) \/ (144 <= c /\ c < 152) \/ (152 <= c /\ c < 160) \/ (160 <= c /\ c < 176) \/ 208 <= c:=by omega
   clear h6 h7 hl hp;rcases hcut with rfl | h1 | rfl | h1 | rfl | rfl | h1 | h1 | h1 | h1 | h1 | h1 | h1 | h1
   ·go_wp2;have b2:=(b1.set4 (.int .i64 11) (.int .i64 0) (.int .i64 0) (.int .i64 1)).alloc (.cells #[.int .i64 11, .int .i64 0, .int .i64 0, .int .i64 1] 139);refine bodyPost_ret (results_cell_tmp Tryz.results140 _ _ w.heap.size 139 _ (0, 0) _ rfl b2 Tryz.underlying139 rfl size25) rfl ⟨?_, ?_⟩
    ·have e : oneM 112 = (⟨11, 0, 0, 1⟩, true):=by unfold oneM; (repeat (first | rw [if_pos (by omega)] | rw [if_neg (by omega)]))
     rw [e]; rfl
    ·exact (below_set4 hb1 (Nat.le_refl _) _ _ _ _).alloc (by simp [World.setCell]; omega) _
   ·go_wp2_with (go_at_call 143; refine (const_any _ _ (by omega)).mono ?_; rintro e w2 ⟨rfl, rfl⟩);have b2:=(b1.set4 (.int .i64 12) (.int .i64 (constM (c - 112))) (.int .i64 0) (.int .i64 1)).alloc (.cells #[.int .i64 12, .int .i64 (constM (c - 112)), .int .i64 0, .int .i64 1] 139);refine bodyPost_ret (results_cell_tmp Tryz.results140 _ _ w.heap.size 139 _ (0, 0) _ rfl b2 Tryz.underlying139 rfl size25) rfl ⟨?_, ?_⟩
    ·have e : oneM c = (⟨12, (constM (c - 112)), 0, 1⟩, true):=by unfold oneM; (repeat (first | rw [if_pos (by omega)] | rw [if_neg (by omega)]))
     rw [e]; rfl
    ·exact (below_set4 hb1 (Nat.le_refl _) _ _ _ _).alloc (by simp [World.setCell]; omega) _
   ·go_wp2;have b2:=(b1.set4 (.int .i64 13) (.int .i64 0) (.int .i64 0) (.int .i64 1)).alloc (.cells #[.int .i64 13, .int .i64 0, .int .i64 0, .int .i64 1] 139);refine bodyPost_ret (results_cell_tmp Tryz.results140 _ _ w.heap.size 139 _ (0, 0) _ rfl b2 Tryz.underlying139 rfl size25) rfl ⟨?_, ?_⟩
    ·have e : oneM 120 = (⟨13, 0, 0, 1⟩, true):=by unfold oneM; (repeat (first | rw [if_pos (by omega)] | rw [if_neg (by omega)]))
     rw [e]; rfl
    ·exact (below_set4 hb1 (Nat.le_refl _) _ _ _ _).alloc (by simp [World.setCell]; omega) _
   ·go_wp2_with (go_at_call 143; refine (const_any _ _ (by omega)).mono ?_; rintro e w2 ⟨rfl, rfl⟩);have b2:=(b1.set4 (.int .i64 14) (.int .i64 (constM (c - 120))) (.int .i64 0) (.int .i64 1)).alloc (.cells #[.int .i64 14, .int .i64 (constM (c - 120)), .int .i64 0, .int .i64 1] 139);refine bodyPost_ret (results_cell_tmp Tryz.results140 _ _ w.heap.size 139 _ (0, 0) _ rfl b2 Tryz.underlying139 rfl size25) rfl ⟨?_, ?_⟩
    ·have e : oneM c = (⟨14, (constM (c - 120)), 0, 1⟩, true):=by unfold oneM; (repeat (first | rw [if_pos (by omega)] | rw [if_neg (by omega)]))
     rw [e]; rfl
    ·exact (below_set4 hb1 (Nat.le_refl _) _ _ _ _).alloc (by simp [World.setCell]; omega) _
   ·go_wp2;have b2:=(b1.set4 (.int .i64 15) (.int .i64 0) (.int .i64 0) (.int .i64 1)).alloc (.cells #[.int .i64 15, .int .i64 0, .int .i64 0, .int .i64 1] 139);refine bodyPost_ret (results_cell_tmp Tryz.results140 _ _ w.heap.size 139 _ (0, 0) _ rfl b2 Tryz.underlying139 rfl size25) rfl ⟨?_, ?_⟩
    ·have e : oneM 124 = (⟨15, 0, 0, 1⟩, true):=by unfold oneM; (repeat (first | rw [if_pos (by omega)] | rw [if_neg (by omega)])); rfl
     rw [e]; rfl
    ·exact (below_set4 hb1 (Nat.le_refl _) _ _ _ _).alloc (by simp [World.setCell]; omega) _
   ·go_wp2;have b2:=(b1.set4 (.int .i64 16) (.int .i64 0) (.int .i64 0) (.int .i64 1)).alloc (.cells #[.int .i64 16, .int .i64 0, .int .i64 0, .int .i64 1] 139);refine bodyPost_ret (results_cell_tmp Tryz.results140 _ _ w.heap.size 139 _ (0, 0) _ rfl b2 Tryz.underlying139 rfl size25) rfl ⟨?_, ?_⟩
    ·have e : oneM 125 = (⟨16, 0, 0, 1⟩, true):=by unfold oneM; (repeat (first | rw [if_pos (by omega)] | rw [if_neg (by omega)])); rfl
     rw [e]; rfl
    ·exact (below_set4 hb1 (Nat.le_refl _) _ _ _ _).alloc (by simp [World.setCell]; omega) _
   ·have e4 : (c == 124) = false:=by simp; omega
    have e5 : (c == 125) = false:=by simp; omega
    go_wp2;have b2:=(b1.set4 (.int .i64 0) (.int .i64 0) (.int .i64 0) (.int .i64 1)).alloc (.cells #[.int .i64 0, .int .i64 0, .int .i64 0, .int .i64 1] 139);refine bodyPost_ret (results_cell_tmp Tryz.results140 _ _ w.heap.size 139 _ (0, 0) _ rfl b2 Tryz.underlying139 rfl size25) rfl ⟨?_, ?_⟩
    ·have e : oneM c = (⟨0, 0, 0, 1⟩, true):=by unfold oneM; (repeat (first | rw [if_pos (by omega)] | rw [if_neg (by omega)])); simp; omega
     rw [e]; rfl
    ·exact (below_set4 hb1 (Nat.le_refl _) _ _ _ _).alloc (by simp [World.setCell]; omega) _
   ·have e4 : (c == 124) = false:=by simp; omega
    have e5 : (c == 125) = false:=by simp; omega
    have e6 : decide (c < 128) = false:=by simp; omega
    have e7 : decide (175 < c) = false:=by simp; omega
    go_wp2;have b2:=(b1.set4 (.int .i64 0) (.int .i64 0) (.int .i64 0) (.int .i64 1)).alloc (.cells #[.int .i64 0, .int .i64 0, .int .i64 0, .int .i64 1] 139);refine bodyPost_ret (results_cell_tmp Tryz.results140 _ _ w.heap.size 139 _ (0, 0) _ rfl b2 Tryz.underlying139 rfl size25) rfl ⟨?_, ?_⟩
    ·have e : oneM c = (⟨0, 0, 0, 1⟩, false):=by unfold oneM; (repeat (first | rw [if_pos (by omega)] | rw [if_neg (by omega)])); simp; omega
     rw [e]; rfl
    ·exact (below_set4 hb1 (Nat.le_refl _) _ _ _ _).alloc (by simp [World.setCell]; omega) _
   ·have e4 : (c == 124) = false:=by simp; omega
    have e5 : (c == 125) = false:=by simp; omega
    go_wp2;have b2:=(b1.set4 (.int .i64 (19 + c - 135)) (.int .i64 0) (.int .i64 0) (.int .i64 1)).alloc (.cells #[.int .i64 (19 + c - 135), .int .i64 0, .int .i64 0, .int .i64 1] 139);refine bodyPost_ret (results_cell_tmp Tryz.results140 _ _ w.heap.size 139 _ (0, 0) _ rfl b2 Tryz.underlying139 rfl size25) rfl ⟨?_, ?_⟩
    ·have e : oneM c = (⟨(19 + c - 135), 0, 0, 1⟩, true):=by unfold oneM; (repeat (first | rw [if_pos (by omega)] | rw [if_neg (by omega)]))
     rw [e]; rfl
    ·exact (below_set4 hb1 (Nat.le_refl _) _ _ _ _).alloc (by simp [World.setCell]; omega) _
   ·have e4 : (c == 124) = false:=by simp; omega
    have e5 : (c == 125) = false:=by simp; omega
    have e6 : decide (c < 128) = false:=by simp; omega
    have e7 : decide (175 < c) = false:=by simp; omega
    have e8 : decide (c < 144) = true:=by simp; omega
    go_wp2;have b2:=(b1.set4 (.int .i64 0) (.int .i64 0) (.int .i64 0) (.int .i64 1)).alloc (.cells #[.int .i64 0, .int .i64 0, .int .i64 0, .int .i64 1] 139);refine bodyPost_ret (results_cell_tmp Tryz.results140 _ _ w.heap.size 139 _ (0, 0) _ rfl b2 Tryz.underlying139 rfl size25) rfl ⟨?_, ?_⟩
    ·have e : oneM c = (⟨0, 0, 0, 1⟩, true):=by unfold oneM; (repeat (first | rw [if_pos (by omega)] | rw [if_neg (by omega)])); simp; omega
     rw [e]; rfl
    ·exact (below_set4 hb1 (Nat.le_refl _) _ _ _ _).alloc (by simp [World.setCell]; omega) _
   ·have e4 : (c == 124) = false:=by simp; omega
    have e5 : (c == 125) = false:=by simp; omega
    go_wp2;have b2:=(b1.set4 (.int .i64 22) (.int .i64 (c - 143)) (.int .i64 0) (.int .i64 1)).alloc (.cells #[.int .i64 22, .int .i64 (c - 143), .int .i64 0, .int .i64 1] 139);refine bodyPost_ret (results_cell_tmp Tryz.results140 _ _ w.heap.size 139 _ (0, 0) _ rfl b2 Tryz.underlying139 rfl size25) rfl ⟨?_, ?_⟩
    ·have e : oneM c = (⟨22, (c - 143), 0, 1⟩, true):=by unfold oneM; (repeat (first | rw [if_pos (by omega)] | rw [if_neg (by omega)]))
     rw [e]; rfl
    ·exact (below_set4 hb1 (Nat.le_refl _) _ _ _ _).alloc (by simp [World.setCell]; omega) _
   ·have e4 : (c == 124) = false:=by simp; omega
    have e5 : (c == 125) = false:=by simp; omega
    go_wp2;have b2:=(b1.set4 (.int .i64 24) (.int .i64 (c - 151)) (.int .i64 0) (.int .i64 1)).alloc (.cells #[.int .i64 24, .int .i64 (c - 151), .int .i64 0, .int .i64 1] 139);refine bodyPost_ret (results_cell_tmp Tryz.results140 _ _ w.heap.size 139 _ (0, 0) _ rfl b2 Tryz.underlying139 rfl size25) rfl ⟨?_, ?_⟩
    ·have e : oneM c = (⟨24, (c - 151), 0, 1⟩, true):=by unfold oneM; (repeat (first | rw [if_pos (by omega)] | rw [if_neg (by omega)]))
     rw [e]; rfl
    ·exact (below_set4 hb1 (Nat.le_refl _) _ _ _ _).alloc (by simp [World.setCell]; omega) _
   ·have e4 : (c == 124) = false:=by simp; omega
    have e5 : (c == 125) = false:=by simp; omega
    have e6 : decide (c < 128) = false:=by simp; omega
    have e7 : decide (175 < c) = false:=by simp; omega
    have e8 : decide (c < 144) = false:=by simp; omega
    go_wp2;have b2:=(b1.set4 (.int .i64 0) (.int .i64 0) (.int .i64 0) (.int .i64 1)).alloc (.cells #[.int .i64 0, .int .i64 0, .int .i64 0, .int .i64 1] 139);refine bodyPost_ret (results_cell_tmp Tryz.results140 _ _ w.heap.size 139 _ (0, 0) _ rfl b2 Tryz.underlying139 rfl size25) rfl ⟨?_, ?_⟩
    ·have e : oneM c = (⟨0, 0, 0, 1⟩, false):=by unfold oneM; (repeat (first | rw [if_pos (by omega)] | rw [if_neg (by omega)])); simp; omega
     rw [e]; rfl
    ·exact (below_set4 hb1 (Nat.le_refl _) _ _ _ _).alloc (by simp [World.setCell]; omega) _
   ·have e4 : (c == 124) = false:=by simp; omega
    have e5 : (c == 125) = false:=by simp; omega
    go_wp2;have b2:=(b1.set4 (.int .i64 17) (.int .i64 (c % 16)) (.int .i64 ((c - 208) / 16)) (.int .i64 1)).alloc (.cells #[.int .i64 17, .int .i64 (c % 16), .int .i64 ((c - 208) / 16), .int .i64 1] 139);refine bodyPost_ret (results_cell_tmp Tryz.results140 _ _ w.heap.size 139 _ (0, 0) _ rfl b2 Tryz.underlying139 rfl size25) rfl ⟨?_, ?_⟩
    ·have e : oneM c = (⟨17, (c % 16), ((c - 208) / 16), 1⟩, true):=by unfold oneM; (repeat (first | rw [if_pos (by omega)] | rw [if_neg (by omega)]))
     rw [e]; rfl
    ·exact (below_set4 hb1 (Nat.le_refl _) _ _ _ _).alloc (by simp [World.setCell]; omega) _    | succ g =>
   have hj8 : j = 0 \/ j = 1 \/ j = 2 \/ j = 3 \/ j = 4 \/ j = 5 \/ j = 6 \/ j = 7:=by omega
   rcases hj8 with rfl | rfl | rfl | rfl | rfl | rfl | rfl | rfl
   ·have pk:=P.out.1;clear P;have hl:=past_low hp.out h.1 (by omega);simp only [lowOf] at hl;by_cases h1 : c <= 15
    ·go_wp2;have b2:=(b1.set4 (.int .i64 1) (.int .i64 c) (.int .i64 0) (.int .i64 1)).alloc (.cells #[.int .i64 0, .int .i64 15, .int .i64 1] 261);refine bodyPost_ret (results_cell_tmp Tryz.results140 _ _ w.heap.size 139 _ (0, 0) _ rfl b2 Tryz.underlying139 rfl size25) rfl ⟨?_, ?_⟩
     ·have e : oneM c = (⟨1, c, 0, 1⟩, true):=by unfold oneM; repeat (first | rw [if_pos (by omega)] | rw [if_neg (by omega)])
      rw [e]; rfl
     ·exact (below_set4 hb1 (Nat.le_refl _) _ _ _ _).alloc (by simp [World.setCell]; omega) _
    ·go_wp2;go_roundg g
     case measure => omega
     case rel => exact ⟨1, by omega, by go_num, past_next hp.out (by simp only [spanAt]; omega), b1.alloc _, hb1.alloc (by omega) _⟩
   ·have pk:=P.out.2.1;clear P;have hl:=past_low hp.out h.1 (by omega);simp only [lowOf] at hl;by_cases h1 : c <= 31
    ·have h2 : 16 <= c:=by omega
     go_wp2;have b2:=(b1.set4 (.int .i64 2) (.int .i64 (c - 16)) (.int .i64 0) (.int .i64 1)).alloc (.cells #[.int .i64 16, .int .i64 31, .int .i64 2] 261);refine bodyPost_ret (results_cell_tmp Tryz.results140 _ _ w.heap.size 139 _ (0, 0) _ rfl b2 Tryz.underlying139 rfl size25) rfl ⟨?_, ?_⟩
     ·have e : oneM c = (⟨2, c - 16, 0, 1⟩, true):=by unfold oneM; repeat (first | rw [if_pos (by omega)] | rw [if_neg (by omega)])
      rw [e]; rfl
     ·exact (below_set4 hb1 (Nat.le_refl _) _ _ _ _).alloc (by simp [World.setCell]; omega) _
    ·go_wp2;go_roundg g
     case measure => omega
     case rel => exact ⟨2, by omega, by go_num, past_next hp.out (by simp only [spanAt]; omega), b1.alloc _, hb1.alloc (by omega) _⟩
   ·have pk:=P.out.2.2.1;clear P;have hl:=past_low hp.out h.1 (by omega);simp only [lowOf] at hl;by_cases h1 : c <= 63
    ·have h2 : 32 <= c:=by omega
     go_wp2;have b2:=(b1.set4 (.int .i64 3) (.int .i64 (c - 32)) (.int .i64 0) (.int .i64 1)).alloc (.cells #[.int .i64 32, .int .i64 63, .int .i64 3] 261);refine bodyPost_ret (results_cell_tmp Tryz.results140 _ _ w.heap.size 139 _ (0, 0) _ rfl b2 Tryz.underlying139 rfl size25) rfl ⟨?_, ?_⟩
     ·have e : oneM c = (⟨3, c - 32, 0, 1⟩, true):=by unfold oneM; repeat (first | rw [if_pos (by omega)] | rw [if_neg (by omega)])
      rw [e]; rfl
     ·exact (below_set4 hb1 (Nat.le_refl _) _ _ _ _).alloc (by simp [World.setCell]; omega) _
    ·go_wp2;go_roundg g
     case measure => omega
     case rel => exact ⟨3, by omega, by go_num, past_next hp.out (by simp only [spanAt]; omega), b1.alloc _, hb1.alloc (by omega) _⟩
   ·have pk:=P.out.2.2.2.1;clear P;have hl:=past_low hp.out h.1 (by omega);simp only [lowOf] at hl;by_cases h1 : c <= 95
    ·have h2 : 64 <= c:=by omega
     go_wp2;have b2:=(b1.set4 (.int .i64 4) (.int .i64 (c - 64)) (.int .i64 0) (.int .i64 1)).alloc (.cells #[.int .i64 64, .int .i64 95, .int .i64 4] 261);refine bodyPost_ret (results_cell_tmp Tryz.results140 _ _ w.heap.size 139 _ (0, 0) _ rfl b2 Tryz.underlying139 rfl size25) rfl ⟨?_, ?_⟩
     ·have e : oneM c = (⟨4, c - 64, 0, 1⟩, true):=by unfold oneM; repeat (first | rw [if_pos (by omega)] | rw [if_neg (by omega)])
      rw [e]; rfl
     ·exact (below_set4 hb1 (Nat.le_refl _) _ _ _ _).alloc (by simp [World.setCell]; omega) _
    ·go_wp2;go_roundg g
     case measure => omega
     case rel => exact ⟨4, by omega, by go_num, past_next hp.out (by simp only [spanAt]; omega), b1.alloc _, hb1.alloc (by omega) _⟩
   ·have pk:=P.out.2.2.2.2.1;clear P;have hl:=past_low hp.out h.1 (by omega);simp only [lowOf] at hl;by_cases h1 : c <= 103
    ·have h2 : 96 <= c:=by omega
     go_wp2;have b2:=(b1.set4 (.int .i64 8) (.int .i64 (c - 96)) (.int .i64 0) (.int .i64 1)).alloc (.cells #[.int .i64 96, .int .i64 103, .int .i64 8] 261);refine bodyPost_ret (results_cell_tmp Tryz.results140 _ _ w.heap.size 139 _ (0, 0) _ rfl b2 Tryz.underlying139 rfl size25) rfl ⟨?_, ?_⟩
     ·have e : oneM c = (⟨8, c - 96, 0, 1⟩, true):=by unfold oneM; repeat (first | rw [if_pos (by omega)] | rw [if_neg (by omega)])
      rw [e]; rfl
     ·exact (below_set4 hb1 (Nat.le_refl _) _ _ _ _).alloc (by simp [World.setCell]; omega) _
    ·go_wp2;go_roundg g
     case measure => omega
     case rel => exact ⟨5, by omega, by go_num, past_next hp.out (by simp only [spanAt]; omega), b1.alloc _, hb1.alloc (by omega) _⟩
   ·have pk:=P.out.2.2.2.2.2.1;clear P;have hl:=past_low hp.out h.1 (by omega);simp only [lowOf] at hl;by_cases h1 : c <= 111
    ·have h2 : 104 <= c:=by omega
     go_wp2;have b2:=(b1.set4 (.int .i64 9) (.int .i64 (c - 104)) (.int .i64 0) (.int .i64 1)).alloc (.cells #[.int .i64 104, .int .i64 111, .int .i64 9] 261);refine bodyPost_ret (results_cell_tmp Tryz.results140 _ _ w.heap.size 139 _ (0, 0) _ rfl b2 Tryz.underlying139 rfl size25) rfl ⟨?_, ?_⟩
     ·have e : oneM c = (⟨9, c - 104, 0, 1⟩, true):=by unfold oneM; repeat (first | rw [if_pos (by omega)] | rw [if_neg (by omega)])
      rw [e]; rfl
     ·exact (below_set4 hb1 (Nat.le_refl _) _ _ _ _).alloc (by simp [World.setCell]; omega) _
    ·go_wp2;go_roundg g
     case measure => omega
     case rel => exact ⟨6, by omega, by go_num, past_next hp.out (by simp only [spanAt]; omega), b1.alloc _, hb1.alloc (by omega) _⟩
   ·have pk:=P.out.2.2.2.2.2.2.1;clear P;have hl:=past_low hp.out h.1 (by omega);simp only [lowOf] at hl;by_cases h1 : c <= 191
    ·by_cases h2 : 176 <= c
     ·go_wp2;have b2:=(b1.set4 (.int .i64 25) (.int .i64 (c - 176)) (.int .i64 0) (.int .i64 1)).alloc (.cells #[.int .i64 176, .int .i64 191, .int .i64 25] 261);refine bodyPost_ret (results_cell_tmp Tryz.results140 _ _ w.heap.size 139 _ (0, 0) _ rfl b2 Tryz.underlying139 rfl size25) rfl ⟨?_, ?_⟩
      ·have e : oneM c = (⟨25, c - 176, 0, 1⟩, true):=by unfold oneM; repeat (first | rw [if_pos (by omega)] | rw [if_neg (by omega)])
       rw [e]; rfl
      ·exact (below_set4 hb1 (Nat.le_refl _) _ _ _ _).alloc (by simp [World.setCell]; omega) _
     ·go_wp2;go_roundg g
      case measure => omega
      case rel => exact ⟨7, by omega, by go_num, past_next hp.out (by simp only [spanAt]; omega), b1.alloc _, hb1.alloc (by omega) _⟩
    ·go_wp2;go_roundg g
     case measure => omega
     case rel => exact ⟨7, by omega, by go_num, past_next hp.out (by simp only [spanAt]; omega), b1.alloc _, hb1.alloc (by omega) _⟩
   ·have pk:=P.out.2.2.2.2.2.2.2;clear P;have hl:=past_low (j:=6) (fun i hi => hp.out i (by omega)) h.1 (by omega);simp only [lowOf] at hl;by_cases h1 : c <= 207
    ·by_cases h2 : 192 <= c
     ·go_wp2;have b2:=(b1.set4 (.int .i64 26) (.int .i64 (c - 192)) (.int .i64 0) (.int .i64 1)).alloc (.cells #[.int .i64 192, .int .i64 207, .int .i64 26] 261);refine bodyPost_ret (results_cell_tmp Tryz.results140 _ _ w.heap.size 139 _ (0, 0) _ rfl b2 Tryz.underlying139 rfl size25) rfl ⟨?_, ?_⟩
      ·have e : oneM c = (⟨26, c - 192, 0, 1⟩, true):=by unfold oneM; repeat (first | rw [if_pos (by omega)] | rw [if_neg (by omega)])
       rw [e]; rfl
      ·exact (below_set4 hb1 (Nat.le_refl _) _ _ _ _).alloc (by simp [World.setCell]; omega) _
     ·go_wp2;go_roundg g
      case measure => omega
      case rel => exact ⟨8, by omega, by go_num, past_next hp.out (by simp only [spanAt]; omega), b1.alloc _, hb1.alloc (by omega) _⟩
    ·go_wp2;go_roundg g
     case measure => omega
     case rel => exact ⟨8, by omega, by go_num, past_next hp.out (by simp only [spanAt]; omega), b1.alloc _, hb1.alloc (by omega) _⟩
def storeK (c q : Int) : Int :=
 if c = 128 then 1 + q else if c = 129 then (if q = 3 then 7 else if q = 2 then 0 else 5 + q) else (if q = 3 then 10 else if q = 2 then 0 else 8 + q)
def moreM (c n m : Int) : O4 :=
 if c < 131 then (if storeK c (n / 64) = 0 then ⟨0, 0, 0, 2⟩ else ⟨storeK c (n / 64), n % 64, 0, 2⟩)
 else if c = 131 then ⟨17, n % 32, n / 32, 2⟩
 else if c = 132 then ⟨17, m, n, 3⟩
 else if c = 133 then ⟨18, n % 32, n / 32, 2⟩
 else if c = 134 then ⟨18, m, n, 3⟩
 else if c < 168 then ⟨22, 256 * (c - 164) + n, 0, 2⟩
 else if c < 172 then ⟨23, 256 * (c - 168) + n, 0, 2⟩
 else ⟨24, 256 * (c - 172) + n, 0, 2⟩
def Ret1 (r : O4) (w : World) (e : Ending) (w' : World) : Prop :=
 e = .returned (.agg #[.int .i64 r.k, .int .i64 r.n, .int .i64 r.m, .int .i64 r.l]) /\ Below w.heap.size w w'
theorem Ret1.of {r r' : O4} {w : World} {e : Ending} {w' : World} (h : Ret1 r w e w') (hr : r = r') : Ret1 r' w e w':=by subst hr; exact h
def longC (c : Int) : Prop:=(128 <= c /\ c <= 134) \/ (160 <= c /\ c <= 175)
theorem op_any (k n m : Int) (w : World) :
  Calls Tryz.prog 132 #[.int .i64 k, .int .i64 n, .int .i64 m] w fun e w' => e = .returned (.agg #[.int .i64 k, .int .i64 n, .int .i64 m, .int .i64 0]) /\ w.alloc (.cells #[.int .i64 k, .int .i64 n, .int .i64 m, .int .i64 0] 139) = w':=by
 go_enter Tryz.func132, Tryz.ntmps132;go_wp2;exact bodyPost_ret (results_cell_row Tryz.results132 _ _ w.heap.size 139 _ (0, 0) _ rfl (Blk.new w 139 _) Tryz.underlying139 rfl size25) rfl ⟨rfl, rfl⟩
theorem more_128_0 (n m : Int) (w : World) (ht : Tabs w) (h : 0 <= n /\ n <= 63) :
  Calls Tryz.prog 141 #[.int .i64 128, .int .i64 n, .int .i64 m] w (Ret1 ⟨1, (n % 64), 0, 2⟩ w):=by
 have hq : n / 64 = 0:=by omega
 have c0 : ∀ o1 o2, ((w.alloc o1).alloc o2).cell? ⟨1, 0, none⟩ = some (.int .i64 1):=fun o1 o2 => ((ht.alloc o1).alloc o2).store 0 (.int .i64 1) rfl;go_enter Tryz.func141, Tryz.ntmps141;go_wp2;exact bodyPost_ret (results_cell_row Tryz.results141 _ _ w.heap.size 139 _ (0, 0) _ rfl ((Blk.new w 139 #[.int .i64 1, .int .i64 (n % 64), .int .i64 0, .int .i64 2]).alloc _) Tryz.underlying139 rfl size25) rfl ⟨rfl, ((Below.refl _ w).alloc (Nat.le_refl _) _).alloc (by simp) _⟩
theorem more_128_1 (n m : Int) (w : World) (ht : Tabs w) (h : 64 <= n /\ n <= 127) :
  Calls Tryz.prog 141 #[.int .i64 128, .int .i64 n, .int .i64 m] w (Ret1 ⟨2, (n % 64), 0, 2⟩ w):=by
 have hq : n / 64 = 1:=by omega
 have c0 : ∀ o1 o2, ((w.alloc o1).alloc o2).cell? ⟨1, 1, none⟩ = some (.int .i64 2):=fun o1 o2 => ((ht.alloc o1).alloc o2).store 1 (.int .i64 2) rfl;go_enter Tryz.func141, Tryz.ntmps141;go_wp2;exact bodyPost_ret (results_cell_row Tryz.results141 _ _ w.heap.size 139 _ (0, 0) _ rfl ((Blk.new w 139 #[.int .i64 2, .int .i64 (n % 64), .int .i64 0, .int .i64 2]).alloc _) Tryz.underlying139 rfl size25) rfl ⟨rfl, ((Below.refl _ w).alloc (Nat.le_refl _) _).alloc (by simp) _⟩
theorem more_128_2 (n m : Int) (w : World) (ht : Tabs w) (h : 128 <= n /\ n <= 191) :
  Calls Tryz.prog 141 #[.int .i64 128, .int .i64 n, .int .i64 m] w (Ret1 ⟨3, (n % 64), 0, 2⟩ w):=by
 have hq : n / 64 = 2:=by omega
 have c0 : ∀ o1 o2, ((w.alloc o1).alloc o2).cell? ⟨1, 2, none⟩ = some (.int .i64 3):=fun o1 o2 => ((ht.alloc o1).alloc o2).store 2 (.int .i64 3) rfl;go_enter Tryz.func141, Tryz.ntmps141;go_wp2;exact bodyPost_ret (results_cell_row Tryz.results141 _ _ w.heap.size 139 _ (0, 0) _ rfl ((Blk.new w 139 #[.int .i64 3, .int .i64 (n % 64), .int .i64 0, .int .i64 2]).alloc _) Tryz.underlying139 rfl size25) rfl ⟨rfl, ((Below.refl _ w).alloc (Nat.le_refl _) _).alloc (by simp) _⟩
theorem more_128_3 (n m : Int) (w : World) (ht : Tabs w) (h : 192 <= n /\ n <= 255) :
  Calls Tryz.prog 141 #[.int .i64 128, .int .i64 n, .int .i64 m] w (Ret1 ⟨4, (n % 64), 0, 2⟩ w):=by
 have hq : n / 64 = 3:=by omega
 have c0 : ∀ o1 o2, ((w.alloc o1).alloc o2).cell? ⟨1, 3, none⟩ = some (.int .i64 4):=fun o1 o2 => ((ht.alloc o1).alloc o2).store 3 (.int .i64 4) rfl;go_enter Tryz.func141, Tryz.ntmps141;go_wp2;exact bodyPost_ret (results_cell_row Tryz.results141 _ _ w.heap.size 139 _ (0, 0) _ rfl ((Blk.new w 139 #[.int .i64 4, .int .i64 (n % 64), .int .i64 0, .int .i64 2]).alloc _) Tryz.underlying139 rfl size25) rfl ⟨rfl, ((Below.refl _ w).alloc (Nat.le_refl _) _).alloc (by simp) _⟩
theorem more_129_0 (n m : Int) (w : World) (ht : Tabs w) (h : 0 <= n /\ n <= 63) :
  Calls Tryz.prog 141 #[.int .i64 129, .int .i64 n, .int .i64 m] w (Ret1 ⟨5, (n % 64), 0, 2⟩ w):=by
 have hq : n / 64 = 0:=by omega
 have c0 : ∀ o1 o2, ((w.alloc o1).alloc o2).cell? ⟨1, 4, none⟩ = some (.int .i64 5):=fun o1 o2 => ((ht.alloc o1).alloc o2).store 4 (.int .i64 5) rfl;go_enter Tryz.func141, Tryz.ntmps141;go_wp2;exact bodyPost_ret (results_cell_row Tryz.results141 _ _ w.heap.size 139 _ (0, 0) _ rfl ((Blk.new w 139 #[.int .i64 5, .int .i64 (n % 64), .int .i64 0, .int .i64 2]).alloc _) Tryz.underlying139 rfl size25) rfl ⟨rfl, ((Below.refl _ w).alloc (Nat.le_refl _) _).alloc (by simp) _⟩
theorem more_129_1 (n m : Int) (w : World) (ht : Tabs w) (h : 64 <= n /\ n <= 127) :
  Calls Tryz.prog 141 #[.int .i64 129, .int .i64 n, .int .i64 m] w (Ret1 ⟨6, (n % 64), 0, 2⟩ w):=by
 have hq : n / 64 = 1:=by omega
 have c0 : ∀ o1 o2, ((w.alloc o1).alloc o2).cell? ⟨1, 5, none⟩ = some (.int .i64 6):=fun o1 o2 => ((ht.alloc o1).alloc o2).store 5 (.int .i64 6) rfl;go_enter Tryz.func141, Tryz.ntmps141;go_wp2;exact bodyPost_ret (results_cell_row Tryz.results141 _ _ w.heap.size 139 _ (0, 0) _ rfl ((Blk.new w 139 #[.int .i64 6, .int .i64 (n % 64), .int .i64 0, .int .i64 2]).alloc _) Tryz.underlying139 rfl size25) rfl ⟨rfl, ((Below.refl _ w).alloc (Nat.le_refl _) _).alloc (by simp) _⟩
theorem more_129_2 (n m : Int) (w : World) (ht : Tabs w) (h : 128 <= n /\ n <= 191) :
  Calls Tryz.prog 141 #[.int .i64 129, .int .i64 n, .int .i64 m] w (Ret1 ⟨0, 0, 0, 2⟩ w):=by
 have hq : n / 64 = 2:=by omega
 have c0 : ∀ o1 o2, ((w.alloc o1).alloc o2).cell? ⟨1, 6, none⟩ = some (.int .i64 0):=fun o1 o2 => ((ht.alloc o1).alloc o2).store 6 (.int .i64 0) rfl;go_enter Tryz.func141, Tryz.ntmps141;go_wp2;exact bodyPost_ret (results_cell_row Tryz.results141 _ _ w.heap.size 139 _ (0, 0) _ rfl ((Blk.new w 139 #[.int .i64 0, .int .i64 0, .int .i64 0, .int .i64 2]).alloc _) Tryz.underlying139 rfl size25) rfl ⟨rfl, ((Below.refl _ w).alloc (Nat.le_refl _) _).alloc (by simp) _⟩
theorem more_129_3 (n m : Int) (w : World) (ht : Tabs w) (h : 192 <= n /\ n <= 255) :
  Calls Tryz.prog 141 #[.int .i64 129, .int .i64 n, .int .i64 m] w (Ret1 ⟨7, (n % 64), 0, 2⟩ w):=by
 have hq : n / 64 = 3:=by omega
 have c0 : ∀ o1 o2, ((w.alloc o1).alloc o2).cell? ⟨1, 7, none⟩ = some (.int .i64 7):=fun o1 o2 => ((ht.alloc o1).alloc o2).store 7 (.int .i64 7) rfl;go_enter Tryz.func141, Tryz.ntmps141;go_wp2;exact bodyPost_ret (results_cell_row Tryz.results141 _ _ w.heap.size 139 _ (0, 0) _ rfl ((Blk.new w 139 #[.int .i64 7, .int .i64 (n % 64), .int .i64 0, .int .i64 2]).alloc _) Tryz.underlying139 rfl size25) rfl ⟨rfl, ((Below.refl _ w).alloc (Nat.le_refl _) _).alloc (by simp) _⟩
theorem more_130_0 (n m : Int) (w : World) (ht : Tabs w) (h : 0 <= n /\ n <= 63) :
  Calls Tryz.prog 141 #[.int .i64 130, .int .i64 n, .int .i64 m] w (Ret1 ⟨8, (n % 64), 0, 2⟩ w):=by
 have hq : n / 64 = 0:=by omega
 have c0 : ∀ o1 o2, ((w.alloc o1).alloc o2).cell? ⟨1, 8, none⟩ = some (.int .i64 8):=fun o1 o2 => ((ht.alloc o1).alloc o2).store 8 (.int .i64 8) rfl;go_enter Tryz.func141, Tryz.ntmps141;go_wp2;exact bodyPost_ret (results_cell_row Tryz.results141 _ _ w.heap.size 139 _ (0, 0) _ rfl ((Blk.new w 139 #[.int .i64 8, .int .i64 (n % 64), .int .i64 0, .int .i64 2]).alloc _) Tryz.underlying139 rfl size25) rfl ⟨rfl, ((Below.refl _ w).alloc (Nat.le_refl _) _).alloc (by simp) _⟩
theorem more_130_1 (n m : Int) (w : World) (ht : Tabs w) (h : 64 <= n /\ n <= 127) :
  Calls Tryz.prog 141 #[.int .i64 130, .int .i64 n, .int .i64 m] w (Ret1 ⟨9, (n % 64), 0, 2⟩ w):=by
 have hq : n / 64 = 1:=by omega
 have c0 : ∀ o1 o2, ((w.alloc o1).alloc o2).cell? ⟨1, 9, none⟩ = some (.int .i64 9):=fun o1 o2 => ((ht.alloc o1).alloc o2).store 9 (.int .i64 9) rfl;go_enter Tryz.func141, Tryz.ntmps141;go_wp2;exact bodyPost_ret (results_cell_row Tryz.results141 _ _ w.heap.size 139 _ (0, 0) _ rfl ((Blk.new w 139 #[.int .i64 9, .int .i64 (n % 64), .int .i64 0, .int .i64 2]).alloc _) Tryz.underlying139 rfl size25) rfl ⟨rfl, ((Below.refl _ w).alloc (Nat.le_refl _) _).alloc (by simp) _⟩
theorem more_130_2 (n m : Int) (w : World) (ht : Tabs w) (h : 128 <= n /\ n <= 191) :
  Calls Tryz.prog 141 #[.int .i64 130, .int .i64 n, .int .i64 m] w (Ret1 ⟨0, 0, 0, 2⟩ w):=by
 have hq : n / 64 = 2:=by omega
 have c0 : ∀ o1 o2, ((w.alloc o1).alloc o2).cell? ⟨1, 10, none⟩ = some (.int .i64 0):=fun o1 o2 => ((ht.alloc o1).alloc o2).store 10 (.int .i64 0) rfl;go_enter Tryz.func141, Tryz.ntmps141;go_wp2;exact bodyPost_ret (results_cell_row Tryz.results141 _ _ w.heap.size 139 _ (0, 0) _ rfl ((Blk.new w 139 #[.int .i64 0, .int .i64 0, .int .i64 0, .int .i64 2]).alloc _) Tryz.underlying139 rfl size25) rfl ⟨rfl, ((Below.refl _ w).alloc (Nat.le_refl _) _).alloc (by simp) _⟩
theorem more_130_3 (n m : Int) (w : World) (ht : Tabs w) (h : 192 <= n /\ n <= 255) :
  Calls Tryz.prog 141 #[.int .i64 130, .int .i64 n, .int .i64 m] w (Ret1 ⟨10, (n % 64), 0, 2⟩ w):=by
 have hq : n / 64 = 3:=by omega
 have c0 : ∀ o1 o2, ((w.alloc o1).alloc o2).cell? ⟨1, 11, none⟩ = some (.int .i64 10):=fun o1 o2 => ((ht.alloc o1).alloc o2).store 11 (.int .i64 10) rfl;go_enter Tryz.func141, Tryz.ntmps141;go_wp2;exact bodyPost_ret (results_cell_row Tryz.results141 _ _ w.heap.size 139 _ (0, 0) _ rfl ((Blk.new w 139 #[.int .i64 10, .int .i64 (n % 64), .int .i64 0, .int .i64 2]).alloc _) Tryz.underlying139 rfl size25) rfl ⟨rfl, ((Below.refl _ w).alloc (Nat.le_refl _) _).alloc (by simp) _⟩
theorem more_131 (n m : Int) (w : World) (h : 0 <= n /\ n <= 255) :
  Calls Tryz.prog 141 #[.int .i64 131, .int .i64 n, .int .i64 m] w (Ret1 ⟨17, (n % 32), (n / 32), 2⟩ w):=by
 go_enter Tryz.func141, Tryz.ntmps141;go_wp2;exact bodyPost_ret (results_cell_row Tryz.results141 _ _ w.heap.size 139 _ (0, 0) _ rfl ((Blk.new w 139 #[.int .i64 17, .int .i64 (n % 32), .int .i64 (n / 32), .int .i64 2]).alloc _) Tryz.underlying139 rfl size25) rfl ⟨rfl, ((Below.refl _ w).alloc (Nat.le_refl _) _).alloc (by simp) _⟩
theorem more_132 (n m : Int) (w : World)  :
  Calls Tryz.prog 141 #[.int .i64 132, .int .i64 n, .int .i64 m] w (Ret1 ⟨17, m, n, 3⟩ w):=by
 go_enter Tryz.func141, Tryz.ntmps141;go_wp2;exact bodyPost_ret (results_cell_row Tryz.results141 _ _ w.heap.size 139 _ (0, 0) _ rfl ((Blk.new w 139 #[.int .i64 17, .int .i64 m, .int .i64 n, .int .i64 3]).alloc _) Tryz.underlying139 rfl size25) rfl ⟨rfl, ((Below.refl _ w).alloc (Nat.le_refl _) _).alloc (by simp) _⟩
theorem more_133 (n m : Int) (w : World) (h : 0 <= n /\ n <= 255) :
  Calls Tryz.prog 141 #[.int .i64 133, .int .i64 n, .int .i64 m] w (Ret1 ⟨18, (n % 32), (n / 32), 2⟩ w):=by
 go_enter Tryz.func141, Tryz.ntmps141;go_wp2;exact bodyPost_ret (results_cell_row Tryz.results141 _ _ w.heap.size 139 _ (0, 0) _ rfl ((Blk.new w 139 #[.int .i64 18, .int .i64 (n % 32), .int .i64 (n / 32), .int .i64 2]).alloc _) Tryz.underlying139 rfl size25) rfl ⟨rfl, ((Below.refl _ w).alloc (Nat.le_refl _) _).alloc (by simp) _⟩
theorem more_134 (n m : Int) (w : World)  :
  Calls Tryz.prog 141 #[.int .i64 134, .int .i64 n, .int .i64 m] w (Ret1 ⟨18, m, n, 3⟩ w):=by
 go_enter Tryz.func141, Tryz.ntmps141;go_wp2;exact bodyPost_ret (results_cell_row Tryz.results141 _ _ w.heap.size 139 _ (0, 0) _ rfl ((Blk.new w 139 #[.int .i64 18, .int .i64 m, .int .i64 n, .int .i64 3]).alloc _) Tryz.underlying139 rfl size25) rfl ⟨rfl, ((Below.refl _ w).alloc (Nat.le_refl _) _).alloc (by simp) _⟩
theorem more_160 (n m : Int) (w : World) (h : 0 <= n /\ n <= 255) :
  Calls Tryz.prog 141 #[.int .i64 160, .int .i64 n, .int .i64 m] w (Ret1 ⟨22, (-1024 + n), 0, 2⟩ w):=by
 go_enter Tryz.func141, Tryz.ntmps141;go_wp2;exact bodyPost_ret (results_cell_row Tryz.results141 _ _ w.heap.size 139 _ (0, 0) _ rfl ((Blk.new w 139 #[.int .i64 22, .int .i64 (-1024 + n), .int .i64 0, .int .i64 2]).alloc _) Tryz.underlying139 rfl size25) rfl ⟨rfl, ((Below.refl _ w).alloc (Nat.le_refl _) _).alloc (by simp) _⟩
theorem more_161 (n m : Int) (w : World) (h : 0 <= n /\ n <= 255) :
  Calls Tryz.prog 141 #[.int .i64 161, .int .i64 n, .int .i64 m] w (Ret1 ⟨22, (-768 + n), 0, 2⟩ w):=by
 go_enter Tryz.func141, Tryz.ntmps141;go_wp2;exact bodyPost_ret (results_cell_row Tryz.results141 _ _ w.heap.size 139 _ (0, 0) _ rfl ((Blk.new w 139 #[.int .i64 22, .int .i64 (-768 + n), .int .i64 0, .int .i64 2]).alloc _) Tryz.underlying139 rfl size25) rfl ⟨rfl, ((Below.refl _ w).alloc (Nat.le_refl _) _).alloc (by simp) _⟩
theorem more_162 (n m : Int) (w : World) (h : 0 <= n /\ n <= 255) :
  Calls Tryz.prog 141 #[.int .i64 162, .int .i64 n, .int .i64 m] w (Ret1 ⟨22, (-512 + n), 0, 2⟩ w):=by
 go_enter Tryz.func141, Tryz.ntmps141;go_wp2;exact bodyPost_ret (results_cell_row Tryz.results141 _ _ w.heap.size 139 _ (0, 0) _ rfl ((Blk.new w 139 #[.int .i64 22, .int .i64 (-512 + n), .int .i64 0, .int .i64 2]).alloc _) Tryz.underlying139 rfl size25) rfl ⟨rfl, ((Below.refl _ w).alloc (Nat.le_refl _) _).alloc (by simp) _⟩
theorem more_163 (n m : Int) (w : World) (h : 0 <= n /\ n <= 255) :
  Calls Tryz.prog 141 #[.int .i64 163, .int .i64 n, .int .i64 m] w (Ret1 ⟨22, (-256 + n), 0, 2⟩ w):=by
 go_enter Tryz.func141, Tryz.ntmps141;go_wp2;exact bodyPost_ret (results_cell_row Tryz.results141 _ _ w.heap.size 139 _ (0, 0) _ rfl ((Blk.new w 139 #[.int .i64 22, .int .i64 (-256 + n), .int .i64 0, .int .i64 2]).alloc _) Tryz.underlying139 rfl size25) rfl ⟨rfl, ((Below.refl _ w).alloc (Nat.le_refl _) _).alloc (by simp) _⟩
theorem more_164 (n m : Int) (w : World) (h : 0 <= n /\ n <= 255) :
  Calls Tryz.prog 141 #[.int .i64 164, .int .i64 n, .int .i64 m] w (Ret1 ⟨22, n, 0, 2⟩ w):=by
 go_enter Tryz.func141, Tryz.ntmps141;go_wp2;exact bodyPost_ret (results_cell_row Tryz.results141 _ _ w.heap.size 139 _ (0, 0) _ rfl ((Blk.new w 139 #[.int .i64 22, .int .i64 n, .int .i64 0, .int .i64 2]).alloc _) Tryz.underlying139 rfl size25) rfl ⟨rfl, ((Below.refl _ w).alloc (Nat.le_refl _) _).alloc (by simp) _⟩
theorem more_165 (n m : Int) (w : World) (h : 0 <= n /\ n <= 255) :
  Calls Tryz.prog 141 #[.int .i64 165, .int .i64 n, .int .i64 m] w (Ret1 ⟨22, (256 + n), 0, 2⟩ w):=by
 go_enter Tryz.func141, Tryz.ntmps141;go_wp2;exact bodyPost_ret (results_cell_row Tryz.results141 _ _ w.heap.size 139 _ (0, 0) _ rfl ((Blk.new w 139 #[.int .i64 22, .int .i64 (256 + n), .int .i64 0, .int .i64 2]).alloc _) Tryz.underlying139 rfl size25) rfl ⟨rfl, ((Below.refl _ w).alloc (Nat.le_refl _) _).alloc (by simp) _⟩
theorem more_166 (n m : Int) (w : World) (h : 0 <= n /\ n <= 255) :
  Calls Tryz.prog 141 #[.int .i64 166, .int .i64 n, .int .i64 m] w (Ret1 ⟨22, (512 + n), 0, 2⟩ w):=by
 go_enter Tryz.func141, Tryz.ntmps141;go_wp2;exact bodyPost_ret (results_cell_row Tryz.results141 _ _ w.heap.size 139 _ (0, 0) _ rfl ((Blk.new w 139 #[.int .i64 22, .int .i64 (512 + n), .int .i64 0, .int .i64 2]).alloc _) Tryz.underlying139 rfl size25) rfl ⟨rfl, ((Below.refl _ w).alloc (Nat.le_refl _) _).alloc (by simp) _⟩
theorem more_167 (n m : Int) (w : World) (h : 0 <= n /\ n <= 255) :
  Calls Tryz.prog 141 #[.int .i64 167, .int .i64 n, .int .i64 m] w (Ret1 ⟨22, (768 + n), 0, 2⟩ w):=by
 go_enter Tryz.func141, Tryz.ntmps141;go_wp2;exact bodyPost_ret (results_cell_row Tryz.results141 _ _ w.heap.size 139 _ (0, 0) _ rfl ((Blk.new w 139 #[.int .i64 22, .int .i64 (768 + n), .int .i64 0, .int .i64 2]).alloc _) Tryz.underlying139 rfl size25) rfl ⟨rfl, ((Below.refl _ w).alloc (Nat.le_refl _) _).alloc (by simp) _⟩
theorem more_168 (n m : Int) (w : World) (h : 0 <= n /\ n <= 255) :
  Calls Tryz.prog 141 #[.int .i64 168, .int .i64 n, .int .i64 m] w (Ret1 ⟨23, n, 0, 2⟩ w):=by
 go_enter Tryz.func141, Tryz.ntmps141;go_wp2;exact bodyPost_ret (results_cell_row Tryz.results141 _ _ w.heap.size 139 _ (0, 0) _ rfl ((Blk.new w 139 #[.int .i64 23, .int .i64 n, .int .i64 0, .int .i64 2]).alloc _) Tryz.underlying139 rfl size25) rfl ⟨rfl, ((Below.refl _ w).alloc (Nat.le_refl _) _).alloc (by simp) _⟩
theorem more_169 (n m : Int) (w : World) (h : 0 <= n /\ n <= 255) :
  Calls Tryz.prog 141 #[.int .i64 169, .int .i64 n, .int .i64 m] w (Ret1 ⟨23, (256 + n), 0, 2⟩ w):=by
 go_enter Tryz.func141, Tryz.ntmps141;go_wp2;exact bodyPost_ret (results_cell_row Tryz.results141 _ _ w.heap.size 139 _ (0, 0) _ rfl ((Blk.new w 139 #[.int .i64 23, .int .i64 (256 + n), .int .i64 0, .int .i64 2]).alloc _) Tryz.underlying139 rfl size25) rfl ⟨rfl, ((Below.refl _ w).alloc (Nat.le_refl _) _).alloc (by simp) _⟩
theorem more_170 (n m : Int) (w : World) (h : 0 <= n /\ n <= 255) :
  Calls Tryz.prog 141 #[.int .i64 170, .int .i64 n, .int .i64 m] w (Ret1 ⟨23, (512 + n), 0, 2⟩ w):=by
 go_enter Tryz.func141, Tryz.ntmps141;go_wp2;exact bodyPost_ret (results_cell_row Tryz.results141 _ _ w.heap.size 139 _ (0, 0) _ rfl ((Blk.new w 139 #[.int .i64 23, .int .i64 (512 + n), .int .i64 0, .int .i64 2]).alloc _) Tryz.underlying139 rfl size25) rfl ⟨rfl, ((Below.refl _ w).alloc (Nat.le_refl _) _).alloc (by simp) _⟩
theorem more_171 (n m : Int) (w : World) (h : 0 <= n /\ n <= 255) :
  Calls Tryz.prog 141 #[.int .i64 171, .int .i64 n, .int .i64 m] w (Ret1 ⟨23, (768 + n), 0, 2⟩ w):=by
 go_enter Tryz.func141, Tryz.ntmps141;go_wp2;exact bodyPost_ret (results_cell_row Tryz.results141 _ _ w.heap.size 139 _ (0, 0) _ rfl ((Blk.new w 139 #[.int .i64 23, .int .i64 (768 + n), .int .i64 0, .int .i64 2]).alloc _) Tryz.underlying139 rfl size25) rfl ⟨rfl, ((Below.refl _ w).alloc (Nat.le_refl _) _).alloc (by simp) _⟩
theorem more_172 (n m : Int) (w : World) (h : 0 <= n /\ n <= 255) :
  Calls Tryz.prog 141 #[.int .i64 172, .int .i64 n, .int .i64 m] w (Ret1 ⟨24, n, 0, 2⟩ w):=by
 go_enter Tryz.func141, Tryz.ntmps141;go_wp2;exact bodyPost_ret (results_cell_row Tryz.results141 _ _ w.heap.size 139 _ (0, 0) _ rfl ((Blk.new w 139 #[.int .i64 24, .int .i64 n, .int .i64 0, .int .i64 2]).alloc _) Tryz.underlying139 rfl size25) rfl ⟨rfl, ((Below.refl _ w).alloc (Nat.le_refl _) _).alloc (by simp) _⟩
theorem more_173 (n m : Int) (w : World) (h : 0 <= n /\ n <= 255) :
  Calls Tryz.prog 141 #[.int .i64 173, .int .i64 n, .int .i64 m] w (Ret1 ⟨24, (256 + n), 0, 2⟩ w):=by
 go_enter Tryz.func141, Tryz.ntmps141;go_wp2;exact bodyPost_ret (results_cell_row Tryz.results141 _ _ w.heap.size 139 _ (0, 0) _ rfl ((Blk.new w 139 #[.int .i64 24, .int .i64 (256 + n), .int .i64 0, .int .i64 2]).alloc _) Tryz.underlying139 rfl size25) rfl ⟨rfl, ((Below.refl _ w).alloc (Nat.le_refl _) _).alloc (by simp) _⟩
theorem more_174 (n m : Int) (w : World) (h : 0 <= n /\ n <= 255) :
  Calls Tryz.prog 141 #[.int .i64 174, .int .i64 n, .int .i64 m] w (Ret1 ⟨24, (512 + n), 0, 2⟩ w):=by
 go_enter Tryz.func141, Tryz.ntmps141;go_wp2;exact bodyPost_ret (results_cell_row Tryz.results141 _ _ w.heap.size 139 _ (0, 0) _ rfl ((Blk.new w 139 #[.int .i64 24, .int .i64 (512 + n), .int .i64 0, .int .i64 2]).alloc _) Tryz.underlying139 rfl size25) rfl ⟨rfl, ((Below.refl _ w).alloc (Nat.le_refl _) _).alloc (by simp) _⟩
theorem more_175 (n m : Int) (w : World) (h : 0 <= n /\ n <= 255) :
  Calls Tryz.prog 141 #[.int .i64 175, .int .i64 n, .int .i64 m] w (Ret1 ⟨24, (768 + n), 0, 2⟩ w):=by
 go_enter Tryz.func141, Tryz.ntmps141;go_wp2;exact bodyPost_ret (results_cell_row Tryz.results141 _ _ w.heap.size 139 _ (0, 0) _ rfl ((Blk.new w 139 #[.int .i64 24, .int .i64 (768 + n), .int .i64 0, .int .i64 2]).alloc _) Tryz.underlying139 rfl size25) rfl ⟨rfl, ((Below.refl _ w).alloc (Nat.le_refl _) _).alloc (by simp) _⟩
theorem more_any (c n m : Int) (w : World) (ht : Tabs w) (hc : longC c) (h : 0 <= n /\ n <= 255) :
  Calls Tryz.prog 141 #[.int .i64 c, .int .i64 n, .int .i64 m] w (Ret1 (moreM c n m) w):=by
 have hcs : c = 128 \/ c = 129 \/ c = 130 \/ c = 131 \/ c = 132 \/ c = 133 \/ c = 134 \/ c = 160 \/ c = 161 \/ c = 162 \/ c = 163 \/ c = 164 \/ c = 165 \/ c = 166 \/ c = 167 \/ c = 168 \/ c = 169 \/ c = 170 \/ c = 171 \/ c = 172 \/ c = 173 \/ c = 174 \/ c = 175:=by rcases hc with hc | hc <;> omega
 have hn : (0 <= n /\ n <= 63) \/ (64 <= n /\ n <= 127) \/ (128 <= n /\ n <= 191) \/ (192 <= n /\ n <= 255):=by omega
 rcases hcs with rfl | rfl | rfl | rfl | rfl | rfl | rfl | rfl | rfl | rfl | rfl | rfl | rfl | rfl | rfl | rfl | rfl | rfl | rfl | rfl | rfl | rfl | rfl
 ·rcases hn with h1 | h1 | h1 | h1
  ·refine (more_128_0 n m w ht h1).mono fun e w' hr => Ret1.of hr ?_;have hq : n / 64 = 0:=by omega
   simp [moreM, storeK, hq]
  ·refine (more_128_1 n m w ht h1).mono fun e w' hr => Ret1.of hr ?_;have hq : n / 64 = 1:=by omega
   simp [moreM, storeK, hq]
  ·refine (more_128_2 n m w ht h1).mono fun e w' hr => Ret1.of hr ?_;have hq : n / 64 = 2:=by omega
   simp [moreM, storeK, hq]
  ·refine (more_128_3 n m w ht h1).mono fun e w' hr => Ret1.of hr ?_;have hq : n / 64 = 3:=by omega
   simp [moreM, storeK, hq]
 ·rcases hn with h1 | h1 | h1 | h1
  ·refine (more_129_0 n m w ht h1).mono fun e w' hr => Ret1.of hr ?_;have hq : n / 64 = 0:=by omega
   simp [moreM, storeK, hq]
  ·refine (more_129_1 n m w ht h1).mono fun e w' hr => Ret1.of hr ?_;have hq : n / 64 = 1:=by omega
   simp [moreM, storeK, hq]
  ·refine (more_129_2 n m w ht h1).mono fun e w' hr => Ret1.of hr ?_;have hq : n / 64 = 2:=by omega
   simp [moreM, storeK, hq]
  ·refine (more_129_3 n m w ht h1).mono fun e w' hr => Ret1.of hr ?_;have hq : n / 64 = 3:=by omega
   simp [moreM, storeK, hq]
 ·rcases hn with h1 | h1 | h1 | h1
  ·refine (more_130_0 n m w ht h1).mono fun e w' hr => Ret1.of hr ?_;have hq : n / 64 = 0:=by omega
   simp [moreM, storeK, hq]
  ·refine (more_130_1 n m w ht h1).mono fun e w' hr => Ret1.of hr ?_;have hq : n / 64 = 1:=by omega
   simp [moreM, storeK, hq]
  ·refine (more_130_2 n m w ht h1).mono fun e w' hr => Ret1.of hr ?_;have hq : n / 64 = 2:=by omega
   simp [moreM, storeK, hq]
  ·refine (more_130_3 n m w ht h1).mono fun e w' hr => Ret1.of hr ?_;have hq : n / 64 = 3:=by omega
   simp [moreM, storeK, hq]
 ·exact (more_131 n m w h).mono fun e w' hr => Ret1.of hr (by simp [moreM])
 ·exact (more_132 n m w).mono fun e w' hr => Ret1.of hr (by simp [moreM])
 ·exact (more_133 n m w h).mono fun e w' hr => Ret1.of hr (by simp [moreM])
 ·exact (more_134 n m w).mono fun e w' hr => Ret1.of hr (by simp [moreM])
 ·exact (more_160 n m w h).mono fun e w' hr => Ret1.of hr (by simp [moreM])
 ·exact (more_161 n m w h).mono fun e w' hr => Ret1.of hr (by simp [moreM])
 ·exact (more_162 n m w h).mono fun e w' hr => Ret1.of hr (by simp [moreM])
 ·exact (more_163 n m w h).mono fun e w' hr => Ret1.of hr (by simp [moreM])
 ·exact (more_164 n m w h).mono fun e w' hr => Ret1.of hr (by simp [moreM])
 ·exact (more_165 n m w h).mono fun e w' hr => Ret1.of hr (by simp [moreM])
 ·exact (more_166 n m w h).mono fun e w' hr => Ret1.of hr (by simp [moreM])
 ·exact (more_167 n m w h).mono fun e w' hr => Ret1.of hr (by simp [moreM])
 ·exact (more_168 n m w h).mono fun e w' hr => Ret1.of hr (by simp [moreM])
 ·exact (more_169 n m w h).mono fun e w' hr => Ret1.of hr (by simp [moreM])
 ·exact (more_170 n m w h).mono fun e w' hr => Ret1.of hr (by simp [moreM])
 ·exact (more_171 n m w h).mono fun e w' hr => Ret1.of hr (by simp [moreM])
 ·exact (more_172 n m w h).mono fun e w' hr => Ret1.of hr (by simp [moreM])
 ·exact (more_173 n m w h).mono fun e w' hr => Ret1.of hr (by simp [moreM])
 ·exact (more_174 n m w h).mono fun e w' hr => Ret1.of hr (by simp [moreM])
 ·exact (more_175 n m w h).mono fun e w' hr => Ret1.of hr (by simp [moreM])
def longM (c : Int) : Int:=if c = 132 \/ c = 134 then 3 else if (128 <= c /\ c <= 133) \/ (160 <= c /\ c <= 175) then 2 else 1
theorem long_132 (w : World)  : Calls Tryz.prog 113 #[.int .i64 132] w fun e w' => e = .returned (.int .i64 3) /\ w = w':=by go_enter Tryz.func113, Tryz.ntmps113;go_wp2;go_ret;exact ⟨rfl, rfl⟩
theorem long_134 (w : World)  : Calls Tryz.prog 113 #[.int .i64 134] w fun e w' => e = .returned (.int .i64 3) /\ w = w':=by go_enter Tryz.func113, Tryz.ntmps113;go_wp2;go_ret;exact ⟨rfl, rfl⟩
theorem long_133 (w : World)  : Calls Tryz.prog 113 #[.int .i64 133] w fun e w' => e = .returned (.int .i64 2) /\ w = w':=by go_enter Tryz.func113, Tryz.ntmps113;go_wp2;go_ret;exact ⟨rfl, rfl⟩
theorem long_a (c : Int) (w : World) (hc : 128 <= c /\ c <= 131) : Calls Tryz.prog 113 #[.int .i64 c] w fun e w' => e = .returned (.int .i64 2) /\ w = w':=by
 have e1 : (c == 132) = false:=by simp; omega
 have e2 : (c == 134) = false:=by simp; omega
 go_enter Tryz.func113, Tryz.ntmps113;go_wp2;go_ret;exact ⟨rfl, rfl⟩
theorem long_b (c : Int) (w : World) (hc : 160 <= c /\ c <= 175) : Calls Tryz.prog 113 #[.int .i64 c] w fun e w' => e = .returned (.int .i64 2) /\ w = w':=by
 have e1 : (c == 132) = false:=by simp; omega
 have e2 : (c == 134) = false:=by simp; omega
 go_enter Tryz.func113, Tryz.ntmps113;go_wp2;go_ret;exact ⟨rfl, rfl⟩
theorem long_c (c : Int) (w : World) (hc : 0 <= c /\ c < 128) : Calls Tryz.prog 113 #[.int .i64 c] w fun e w' => e = .returned (.int .i64 1) /\ w = w':=by
 have e1 : (c == 132) = false:=by simp; omega
 have e2 : (c == 134) = false:=by simp; omega
 go_enter Tryz.func113, Tryz.ntmps113;go_wp2;go_ret;exact ⟨rfl, rfl⟩
theorem long_d (c : Int) (w : World) (hc : 135 <= c /\ c < 160) : Calls Tryz.prog 113 #[.int .i64 c] w fun e w' => e = .returned (.int .i64 1) /\ w = w':=by
 have e1 : (c == 132) = false:=by simp; omega
 have e2 : (c == 134) = false:=by simp; omega
 have e3 : decide (128 <= c) = true:=by simp; omega
 go_enter Tryz.func113, Tryz.ntmps113;go_wp2;go_ret;exact ⟨rfl, rfl⟩
theorem long_e (c : Int) (w : World) (hc : 175 < c /\ c <= 255) : Calls Tryz.prog 113 #[.int .i64 c] w fun e w' => e = .returned (.int .i64 1) /\ w = w':=by
 have e1 : (c == 132) = false:=by simp; omega
 have e2 : (c == 134) = false:=by simp; omega
 go_enter Tryz.func113, Tryz.ntmps113;go_wp2;go_ret;exact ⟨rfl, rfl⟩
theorem long_any (c : Int) (w : World) (h : 0 <= c /\ c <= 255) : Calls Tryz.prog 113 #[.int .i64 c] w fun e w' => e = .returned (.int .i64 (longM c)) /\ w = w':=by
 have hcs : c = 132 \/ c = 134 \/ c = 133 \/ (128 <= c /\ c <= 131) \/ (160 <= c /\ c <= 175) \/ (0 <= c /\ c < 128) \/ (135 <= c /\ c < 160) \/ (175 < c /\ c <= 255):=by omega
 rcases hcs with rfl | rfl | rfl | hc | hc | hc | hc | hc
 ·exact long_132 w
 ·exact long_134 w
 ·exact long_133 w
 ·have e : longM c = 2:=by unfold longM; rw [if_neg (by omega), if_pos (by omega)]
  rw [e]; exact long_a c w hc
 ·have e : longM c = 2:=by unfold longM; rw [if_neg (by omega), if_pos (by omega)]
  rw [e]; exact long_b c w hc
 ·have e : longM c = 1:=by unfold longM; rw [if_neg (by omega), if_neg (by omega)]
  rw [e]; exact long_c c w hc
 ·have e : longM c = 1:=by unfold longM; rw [if_neg (by omega), if_neg (by omega)]
  rw [e]; exact long_d c w hc
 ·have e : longM c = 1:=by unfold longM; rw [if_neg (by omega), if_neg (by omega)]
  rw [e]; exact long_e c w hc
theorem short_a (c : Int) (w : World) (hc : 0 <= c /\ c <= 15) :
  Calls Tryz.prog 114 #[.int .i64 c] w (Ret1 ⟨1, c, 0, 0⟩ w):=by
 go_enter Tryz.func114, Tryz.ntmps114;go_wp2_with (go_at_call 132; refine (op_any _ _ _ _).mono ?_; rintro e w2 ⟨rfl, rfl⟩);exact bodyPost_ret (results_cell_row Tryz.results114 _ _ w.heap.size 139 _ (0, 0) _ rfl (((Blk.new w 139 #[.int .i64 1, .int .i64 c, .int .i64 0, .int .i64 0]).alloc _).alloc _) Tryz.underlying139 rfl size25) rfl ⟨rfl, (((Below.refl _ w).alloc (Nat.le_refl _) _).alloc (by simp) _).alloc (by simp; omega) _⟩
theorem short_b (c : Int) (w : World) (hc : 16 <= c /\ c <= 31) :
  Calls Tryz.prog 114 #[.int .i64 c] w (Ret1 ⟨2, (c - 16), 0, 0⟩ w):=by
 go_enter Tryz.func114, Tryz.ntmps114;go_wp2_with (go_at_call 132; refine (op_any _ _ _ _).mono ?_; rintro e w2 ⟨rfl, rfl⟩);exact bodyPost_ret (results_cell_row Tryz.results114 _ _ w.heap.size 139 _ (0, 0) _ rfl (((Blk.new w 139 #[.int .i64 2, .int .i64 (c - 16), .int .i64 0, .int .i64 0]).alloc _).alloc _) Tryz.underlying139 rfl size25) rfl ⟨rfl, (((Below.refl _ w).alloc (Nat.le_refl _) _).alloc (by simp) _).alloc (by simp; omega) _⟩
theorem short_c (c : Int) (w : World) (hc : 32 <= c /\ c <= 63) :
  Calls Tryz.prog 114 #[.int .i64 c] w (Ret1 ⟨3, (c - 32), 0, 0⟩ w):=by
 go_enter Tryz.func114, Tryz.ntmps114;go_wp2_with (go_at_call 132; refine (op_any _ _ _ _).mono ?_; rintro e w2 ⟨rfl, rfl⟩);exact bodyPost_ret (results_cell_row Tryz.results114 _ _ w.heap.size 139 _ (0, 0) _ rfl (((Blk.new w 139 #[.int .i64 3, .int .i64 (c - 32), .int .i64 0, .int .i64 0]).alloc _).alloc _) Tryz.underlying139 rfl size25) rfl ⟨rfl, (((Below.refl _ w).alloc (Nat.le_refl _) _).alloc (by simp) _).alloc (by simp; omega) _⟩
theorem short_d (c : Int) (w : World) (hc : 64 <= c /\ c <= 95) :
  Calls Tryz.prog 114 #[.int .i64 c] w (Ret1 ⟨4, (c - 64), 0, 0⟩ w):=by
 go_enter Tryz.func114, Tryz.ntmps114;go_wp2_with (go_at_call 132; refine (op_any _ _ _ _).mono ?_; rintro e w2 ⟨rfl, rfl⟩);exact bodyPost_ret (results_cell_row Tryz.results114 _ _ w.heap.size 139 _ (0, 0) _ rfl (((Blk.new w 139 #[.int .i64 4, .int .i64 (c - 64), .int .i64 0, .int .i64 0]).alloc _).alloc _) Tryz.underlying139 rfl size25) rfl ⟨rfl, (((Below.refl _ w).alloc (Nat.le_refl _) _).alloc (by simp) _).alloc (by simp; omega) _⟩
theorem short_e (c : Int) (w : World) (hc : 96 <= c /\ c <= 103) :
  Calls Tryz.prog 114 #[.int .i64 c] w (Ret1 ⟨8, (c - 96), 0, 0⟩ w):=by
 go_enter Tryz.func114, Tryz.ntmps114;go_wp2_with (go_at_call 132; refine (op_any _ _ _ _).mono ?_; rintro e w2 ⟨rfl, rfl⟩);exact bodyPost_ret (results_cell_row Tryz.results114 _ _ w.heap.size 139 _ (0, 0) _ rfl (((Blk.new w 139 #[.int .i64 8, .int .i64 (c - 96), .int .i64 0, .int .i64 0]).alloc _).alloc _) Tryz.underlying139 rfl size25) rfl ⟨rfl, (((Below.refl _ w).alloc (Nat.le_refl _) _).alloc (by simp) _).alloc (by simp; omega) _⟩
theorem short_f (c : Int) (w : World) (hc : 104 <= c /\ c <= 111) :
  Calls Tryz.prog 114 #[.int .i64 c] w (Ret1 ⟨9, (c - 104), 0, 0⟩ w):=by
 go_enter Tryz.func114, Tryz.ntmps114;go_wp2_with (go_at_call 132; refine (op_any _ _ _ _).mono ?_; rintro e w2 ⟨rfl, rfl⟩);exact bodyPost_ret (results_cell_row Tryz.results114 _ _ w.heap.size 139 _ (0, 0) _ rfl (((Blk.new w 139 #[.int .i64 9, .int .i64 (c - 104), .int .i64 0, .int .i64 0]).alloc _).alloc _) Tryz.underlying139 rfl size25) rfl ⟨rfl, (((Below.refl _ w).alloc (Nat.le_refl _) _).alloc (by simp) _).alloc (by simp; omega) _⟩
theorem short_112 (w : World)  :
  Calls Tryz.prog 114 #[.int .i64 112] w (Ret1 ⟨11, 0, 0, 0⟩ w):=by
 go_enter Tryz.func114, Tryz.ntmps114;go_wp2_with (go_at_call 132; refine (op_any _ _ _ _).mono ?_; rintro e w2 ⟨rfl, rfl⟩);exact bodyPost_ret (results_cell_row Tryz.results114 _ _ w.heap.size 139 _ (0, 0) _ rfl (((Blk.new w 139 #[.int .i64 11, .int .i64 0, .int .i64 0, .int .i64 0]).alloc _).alloc _) Tryz.underlying139 rfl size25) rfl ⟨rfl, (((Below.refl _ w).alloc (Nat.le_refl _) _).alloc (by simp) _).alloc (by simp; omega) _⟩
theorem short_113 (w : World)  :
  Calls Tryz.prog 114 #[.int .i64 113] w (Ret1 ⟨12, 4, 0, 0⟩ w):=by
 go_enter Tryz.func114, Tryz.ntmps114;go_wp2_with (go_at_call 132; refine (op_any _ _ _ _).mono ?_; rintro e w2 ⟨rfl, rfl⟩);exact bodyPost_ret (results_cell_row Tryz.results114 _ _ w.heap.size 139 _ (0, 0) _ rfl (((Blk.new w 139 #[.int .i64 12, .int .i64 4, .int .i64 0, .int .i64 0]).alloc _).alloc _) Tryz.underlying139 rfl size25) rfl ⟨rfl, (((Below.refl _ w).alloc (Nat.le_refl _) _).alloc (by simp) _).alloc (by simp; omega) _⟩
theorem short_114 (w : World)  :
  Calls Tryz.prog 114 #[.int .i64 114] w (Ret1 ⟨12, 6, 0, 0⟩ w):=by
 go_enter Tryz.func114, Tryz.ntmps114;go_wp2_with (go_at_call 132; refine (op_any _ _ _ _).mono ?_; rintro e w2 ⟨rfl, rfl⟩);exact bodyPost_ret (results_cell_row Tryz.results114 _ _ w.heap.size 139 _ (0, 0) _ rfl (((Blk.new w 139 #[.int .i64 12, .int .i64 6, .int .i64 0, .int .i64 0]).alloc _).alloc _) Tryz.underlying139 rfl size25) rfl ⟨rfl, (((Below.refl _ w).alloc (Nat.le_refl _) _).alloc (by simp) _).alloc (by simp; omega) _⟩
theorem short_115 (w : World)  :
  Calls Tryz.prog 114 #[.int .i64 115] w (Ret1 ⟨12, 2, 0, 0⟩ w):=by
 go_enter Tryz.func114, Tryz.ntmps114;go_wp2_with (go_at_call 132; refine (op_any _ _ _ _).mono ?_; rintro e w2 ⟨rfl, rfl⟩);exact bodyPost_ret (results_cell_row Tryz.results114 _ _ w.heap.size 139 _ (0, 0) _ rfl (((Blk.new w 139 #[.int .i64 12, .int .i64 2, .int .i64 0, .int .i64 0]).alloc _).alloc _) Tryz.underlying139 rfl size25) rfl ⟨rfl, (((Below.refl _ w).alloc (Nat.le_refl _) _).alloc (by simp) _).alloc (by simp; omega) _⟩
theorem short_116 (w : World)  :
  Calls Tryz.prog 114 #[.int .i64 116] w (Ret1 ⟨12, (-1), 0, 0⟩ w):=by
 go_enter Tryz.func114, Tryz.ntmps114;go_wp2_with (go_at_call 132; refine (op_any _ _ _ _).mono ?_; rintro e w2 ⟨rfl, rfl⟩);exact bodyPost_ret (results_cell_row Tryz.results114 _ _ w.heap.size 139 _ (0, 0) _ rfl (((Blk.new w 139 #[.int .i64 12, .int .i64 (-1), .int .i64 0, .int .i64 0]).alloc _).alloc _) Tryz.underlying139 rfl size25) rfl ⟨rfl, (((Below.refl _ w).alloc (Nat.le_refl _) _).alloc (by simp) _).alloc (by simp; omega) _⟩
theorem short_117 (w : World)  :
  Calls Tryz.prog 114 #[.int .i64 117] w (Ret1 ⟨12, 1, 0, 0⟩ w):=by
 go_enter Tryz.func114, Tryz.ntmps114;go_wp2_with (go_at_call 132; refine (op_any _ _ _ _).mono ?_; rintro e w2 ⟨rfl, rfl⟩);exact bodyPost_ret (results_cell_row Tryz.results114 _ _ w.heap.size 139 _ (0, 0) _ rfl (((Blk.new w 139 #[.int .i64 12, .int .i64 1, .int .i64 0, .int .i64 0]).alloc _).alloc _) Tryz.underlying139 rfl size25) rfl ⟨rfl, (((Below.refl _ w).alloc (Nat.le_refl _) _).alloc (by simp) _).alloc (by simp; omega) _⟩
theorem short_118 (w : World)  :
  Calls Tryz.prog 114 #[.int .i64 118] w (Ret1 ⟨12, 3, 0, 0⟩ w):=by
 go_enter Tryz.func114, Tryz.ntmps114;go_wp2_with (go_at_call 132; refine (op_any _ _ _ _).mono ?_; rintro e w2 ⟨rfl, rfl⟩);exact bodyPost_ret (results_cell_row Tryz.results114 _ _ w.heap.size 139 _ (0, 0) _ rfl (((Blk.new w 139 #[.int .i64 12, .int .i64 3, .int .i64 0, .int .i64 0]).alloc _).alloc _) Tryz.underlying139 rfl size25) rfl ⟨rfl, (((Below.refl _ w).alloc (Nat.le_refl _) _).alloc (by simp) _).alloc (by simp; omega) _⟩
theorem short_119 (w : World)  :
  Calls Tryz.prog 114 #[.int .i64 119] w (Ret1 ⟨12, 5, 0, 0⟩ w):=by
 go_enter Tryz.func114, Tryz.ntmps114;go_wp2_with (go_at_call 132; refine (op_any _ _ _ _).mono ?_; rintro e w2 ⟨rfl, rfl⟩);exact bodyPost_ret (results_cell_row Tryz.results114 _ _ w.heap.size 139 _ (0, 0) _ rfl (((Blk.new w 139 #[.int .i64 12, .int .i64 5, .int .i64 0, .int .i64 0]).alloc _).alloc _) Tryz.underlying139 rfl size25) rfl ⟨rfl, (((Below.refl _ w).alloc (Nat.le_refl _) _).alloc (by simp) _).alloc (by simp; omega) _⟩
theorem short_120 (w : World)  :
  Calls Tryz.prog 114 #[.int .i64 120] w (Ret1 ⟨13, 0, 0, 0⟩ w):=by
 go_enter Tryz.func114, Tryz.ntmps114;go_wp2_with (go_at_call 132; refine (op_any _ _ _ _).mono ?_; rintro e w2 ⟨rfl, rfl⟩);exact bodyPost_ret (results_cell_row Tryz.results114 _ _ w.heap.size 139 _ (0, 0) _ rfl (((Blk.new w 139 #[.int .i64 13, .int .i64 0, .int .i64 0, .int .i64 0]).alloc _).alloc _) Tryz.underlying139 rfl size25) rfl ⟨rfl, (((Below.refl _ w).alloc (Nat.le_refl _) _).alloc (by simp) _).alloc (by simp; omega) _⟩
theorem short_121 (w : World)  :
  Calls Tryz.prog 114 #[.int .i64 121] w (Ret1 ⟨14, 4, 0, 0⟩ w):=by
 go_enter Tryz.func114, Tryz.ntmps114;go_wp2_with (go_at_call 132; refine (op_any _ _ _ _).mono ?_; rintro e w2 ⟨rfl, rfl⟩);exact bodyPost_ret (results_cell_row Tryz.results114 _ _ w.heap.size 139 _ (0, 0) _ rfl (((Blk.new w 139 #[.int .i64 14, .int .i64 4, .int .i64 0, .int .i64 0]).alloc _).alloc _) Tryz.underlying139 rfl size25) rfl ⟨rfl, (((Below.refl _ w).alloc (Nat.le_refl _) _).alloc (by simp) _).alloc (by simp; omega) _⟩
theorem short_122 (w : World)  :
  Calls Tryz.prog 114 #[.int .i64 122] w (Ret1 ⟨14, 6, 0, 0⟩ w):=by
 go_enter Tryz.func114, Tryz.ntmps114;go_wp2_with (go_at_call 132; refine (op_any _ _ _ _).mono ?_; rintro e w2 ⟨rfl, rfl⟩);exact bodyPost_ret (results_cell_row Tryz.results114 _ _ w.heap.size 139 _ (0, 0) _ rfl (((Blk.new w 139 #[.int .i64 14, .int .i64 6, .int .i64 0, .int .i64 0]).alloc _).alloc _) Tryz.underlying139 rfl size25) rfl ⟨rfl, (((Below.refl _ w).alloc (Nat.le_refl _) _).alloc (by simp) _).alloc (by simp; omega) _⟩
theorem short_123 (w : World)  :
  Calls Tryz.prog 114 #[.int .i64 123] w (Ret1 ⟨14, 2, 0, 0⟩ w):=by
 go_enter Tryz.func114, Tryz.ntmps114;go_wp2_with (go_at_call 132; refine (op_any _ _ _ _).mono ?_; rintro e w2 ⟨rfl, rfl⟩);exact bodyPost_ret (results_cell_row Tryz.results114 _ _ w.heap.size 139 _ (0, 0) _ rfl (((Blk.new w 139 #[.int .i64 14, .int .i64 2, .int .i64 0, .int .i64 0]).alloc _).alloc _) Tryz.underlying139 rfl size25) rfl ⟨rfl, (((Below.refl _ w).alloc (Nat.le_refl _) _).alloc (by simp) _).alloc (by simp; omega) _⟩
theorem short_124 (w : World)  :
  Calls Tryz.prog 114 #[.int .i64 124] w (Ret1 ⟨15, 0, 0, 0⟩ w):=by
 go_enter Tryz.func114, Tryz.ntmps114;go_wp2_with (go_at_call 132; refine (op_any _ _ _ _).mono ?_; rintro e w2 ⟨rfl, rfl⟩);exact bodyPost_ret (results_cell_row Tryz.results114 _ _ w.heap.size 139 _ (0, 0) _ rfl (((Blk.new w 139 #[.int .i64 15, .int .i64 0, .int .i64 0, .int .i64 0]).alloc _).alloc _) Tryz.underlying139 rfl size25) rfl ⟨rfl, (((Below.refl _ w).alloc (Nat.le_refl _) _).alloc (by simp) _).alloc (by simp; omega) _⟩
theorem short_125 (w : World)  :
  Calls Tryz.prog 114 #[.int .i64 125] w (Ret1 ⟨16, 0, 0, 0⟩ w):=by
 go_enter Tryz.func114, Tryz.ntmps114;go_wp2_with (go_at_call 132; refine (op_any _ _ _ _).mono ?_; rintro e w2 ⟨rfl, rfl⟩);exact bodyPost_ret (results_cell_row Tryz.results114 _ _ w.heap.size 139 _ (0, 0) _ rfl (((Blk.new w 139 #[.int .i64 16, .int .i64 0, .int .i64 0, .int .i64 0]).alloc _).alloc _) Tryz.underlying139 rfl size25) rfl ⟨rfl, (((Below.refl _ w).alloc (Nat.le_refl _) _).alloc (by simp) _).alloc (by simp; omega) _⟩
theorem short_g (c : Int) (w : World) (hc : 126 <= c /\ c <= 134) :
  Calls Tryz.prog 114 #[.int .i64 c] w (Ret1 ⟨0, 0, 0, 0⟩ w):=by
 go_enter Tryz.func114, Tryz.ntmps114;go_wp2_with (go_at_call 132; refine (op_any _ _ _ _).mono ?_; rintro e w2 ⟨rfl, rfl⟩);exact bodyPost_ret (results_cell_row Tryz.results114 _ _ w.heap.size 139 _ (0, 0) _ rfl (((Blk.new w 139 #[.int .i64 0, .int .i64 0, .int .i64 0, .int .i64 0]).alloc _).alloc _) Tryz.underlying139 rfl size25) rfl ⟨rfl, (((Below.refl _ w).alloc (Nat.le_refl _) _).alloc (by simp) _).alloc (by simp; omega) _⟩
theorem short_135 (w : World)  :
  Calls Tryz.prog 114 #[.int .i64 135] w (Ret1 ⟨19, 0, 0, 0⟩ w):=by
 go_enter Tryz.func114, Tryz.ntmps114;go_wp2_with (go_at_call 132; refine (op_any _ _ _ _).mono ?_; rintro e w2 ⟨rfl, rfl⟩);exact bodyPost_ret (results_cell_row Tryz.results114 _ _ w.heap.size 139 _ (0, 0) _ rfl (((Blk.new w 139 #[.int .i64 19, .int .i64 0, .int .i64 0, .int .i64 0]).alloc _).alloc _) Tryz.underlying139 rfl size25) rfl ⟨rfl, (((Below.refl _ w).alloc (Nat.le_refl _) _).alloc (by simp) _).alloc (by simp; omega) _⟩
theorem short_136 (w : World)  :
  Calls Tryz.prog 114 #[.int .i64 136] w (Ret1 ⟨20, 0, 0, 0⟩ w):=by
 go_enter Tryz.func114, Tryz.ntmps114;go_wp2_with (go_at_call 132; refine (op_any _ _ _ _).mono ?_; rintro e w2 ⟨rfl, rfl⟩);exact bodyPost_ret (results_cell_row Tryz.results114 _ _ w.heap.size 139 _ (0, 0) _ rfl (((Blk.new w 139 #[.int .i64 20, .int .i64 0, .int .i64 0, .int .i64 0]).alloc _).alloc _) Tryz.underlying139 rfl size25) rfl ⟨rfl, (((Below.refl _ w).alloc (Nat.le_refl _) _).alloc (by simp) _).alloc (by simp; omega) _⟩
theorem short_137 (w : World)  :
  Calls Tryz.prog 114 #[.int .i64 137] w (Ret1 ⟨21, 0, 0, 0⟩ w):=by
 go_enter Tryz.func114, Tryz.ntmps114;go_wp2_with (go_at_call 132; refine (op_any _ _ _ _).mono ?_; rintro e w2 ⟨rfl, rfl⟩);exact bodyPost_ret (results_cell_row Tryz.results114 _ _ w.heap.size 139 _ (0, 0) _ rfl (((Blk.new w 139 #[.int .i64 21, .int .i64 0, .int .i64 0, .int .i64 0]).alloc _).alloc _) Tryz.underlying139 rfl size25) rfl ⟨rfl, (((Below.refl _ w).alloc (Nat.le_refl _) _).alloc (by simp) _).alloc (by simp; omega) _⟩
theorem short_h (c : Int) (w : World) (hc : 138 <= c /\ c <= 143) :
  Calls Tryz.prog 114 #[.int .i64 c] w (Ret1 ⟨0, 0, 0, 0⟩ w):=by
 go_enter Tryz.func114, Tryz.ntmps114;go_wp2_with (go_at_call 132; refine (op_any _ _ _ _).mono ?_; rintro e w2 ⟨rfl, rfl⟩);exact bodyPost_ret (results_cell_row Tryz.results114 _ _ w.heap.size 139 _ (0, 0) _ rfl (((Blk.new w 139 #[.int .i64 0, .int .i64 0, .int .i64 0, .int .i64 0]).alloc _).alloc _) Tryz.underlying139 rfl size25) rfl ⟨rfl, (((Below.refl _ w).alloc (Nat.le_refl _) _).alloc (by simp) _).alloc (by simp; omega) _⟩
theorem short_i (c : Int) (w : World) (hc : 144 <= c /\ c <= 151) :
  Calls Tryz.prog 114 #[.int .i64 c] w (Ret1 ⟨22, (c - 143), 0, 0⟩ w):=by
 go_enter Tryz.func114, Tryz.ntmps114;go_wp2_with (go_at_call 132; refine (op_any _ _ _ _).mono ?_; rintro e w2 ⟨rfl, rfl⟩);exact bodyPost_ret (results_cell_row Tryz.results114 _ _ w.heap.size 139 _ (0, 0) _ rfl (((Blk.new w 139 #[.int .i64 22, .int .i64 (c - 143), .int .i64 0, .int .i64 0]).alloc _).alloc _) Tryz.underlying139 rfl size25) rfl ⟨rfl, (((Below.refl _ w).alloc (Nat.le_refl _) _).alloc (by simp) _).alloc (by simp; omega) _⟩
theorem short_j (c : Int) (w : World) (hc : 152 <= c /\ c <= 159) :
  Calls Tryz.prog 114 #[.int .i64 c] w (Ret1 ⟨24, (c - 151), 0, 0⟩ w):=by
 go_enter Tryz.func114, Tryz.ntmps114;go_wp2_with (go_at_call 132; refine (op_any _ _ _ _).mono ?_; rintro e w2 ⟨rfl, rfl⟩);exact bodyPost_ret (results_cell_row Tryz.results114 _ _ w.heap.size 139 _ (0, 0) _ rfl (((Blk.new w 139 #[.int .i64 24, .int .i64 (c - 151), .int .i64 0, .int .i64 0]).alloc _).alloc _) Tryz.underlying139 rfl size25) rfl ⟨rfl, (((Below.refl _ w).alloc (Nat.le_refl _) _).alloc (by simp) _).alloc (by simp; omega) _⟩
theorem short_k (c : Int) (w : World) (hc : 160 <= c /\ c <= 175) :
  Calls Tryz.prog 114 #[.int .i64 c] w (Ret1 ⟨0, 0, 0, 0⟩ w):=by
 go_enter Tryz.func114, Tryz.ntmps114;go_wp2_with (go_at_call 132; refine (op_any _ _ _ _).mono ?_; rintro e w2 ⟨rfl, rfl⟩);exact bodyPost_ret (results_cell_row Tryz.results114 _ _ w.heap.size 139 _ (0, 0) _ rfl (((Blk.new w 139 #[.int .i64 0, .int .i64 0, .int .i64 0, .int .i64 0]).alloc _).alloc _) Tryz.underlying139 rfl size25) rfl ⟨rfl, (((Below.refl _ w).alloc (Nat.le_refl _) _).alloc (by simp) _).alloc (by simp; omega) _⟩
theorem short_l (c : Int) (w : World) (hc : 176 <= c /\ c <= 191) :
  Calls Tryz.prog 114 #[.int .i64 c] w (Ret1 ⟨25, (c - 176), 0, 0⟩ w):=by
 go_enter Tryz.func114, Tryz.ntmps114;go_wp2_with (go_at_call 132; refine (op_any _ _ _ _).mono ?_; rintro e w2 ⟨rfl, rfl⟩);exact bodyPost_ret (results_cell_row Tryz.results114 _ _ w.heap.size 139 _ (0, 0) _ rfl (((Blk.new w 139 #[.int .i64 25, .int .i64 (c - 176), .int .i64 0, .int .i64 0]).alloc _).alloc _) Tryz.underlying139 rfl size25) rfl ⟨rfl, (((Below.refl _ w).alloc (Nat.le_refl _) _).alloc (by simp) _).alloc (by simp; omega) _⟩
theorem short_m (c : Int) (w : World) (hc : 192 <= c /\ c <= 207) :
  Calls Tryz.prog 114 #[.int .i64 c] w (Ret1 ⟨26, (c - 192), 0, 0⟩ w):=by
 go_enter Tryz.func114, Tryz.ntmps114;go_wp2_with (go_at_call 132; refine (op_any _ _ _ _).mono ?_; rintro e w2 ⟨rfl, rfl⟩);exact bodyPost_ret (results_cell_row Tryz.results114 _ _ w.heap.size 139 _ (0, 0) _ rfl (((Blk.new w 139 #[.int .i64 26, .int .i64 (c - 192), .int .i64 0, .int .i64 0]).alloc _).alloc _) Tryz.underlying139 rfl size25) rfl ⟨rfl, (((Below.refl _ w).alloc (Nat.le_refl _) _).alloc (by simp) _).alloc (by simp; omega) _⟩
theorem short_n (c : Int) (w : World) (hc : 208 <= c /\ c <= 255) :
  Calls Tryz.prog 114 #[.int .i64 c] w (Ret1 ⟨17, (c % 16), (c / 16 - 13), 0⟩ w):=by
 go_enter Tryz.func114, Tryz.ntmps114;go_wp2_with (go_at_call 132; refine (op_any _ _ _ _).mono ?_; rintro e w2 ⟨rfl, rfl⟩);exact bodyPost_ret (results_cell_row Tryz.results114 _ _ w.heap.size 139 _ (0, 0) _ rfl (((Blk.new w 139 #[.int .i64 17, .int .i64 (c % 16), .int .i64 (c / 16 - 13), .int .i64 0]).alloc _).alloc _) Tryz.underlying139 rfl size25) rfl ⟨rfl, (((Below.refl _ w).alloc (Nat.le_refl _) _).alloc (by simp) _).alloc (by simp; omega) _⟩
theorem short_any (c : Int) (w : World) (h : 0 <= c /\ c <= 255) :
  Calls Tryz.prog 114 #[.int .i64 c] w (Ret1 { (oneM c).1 with l:=0 } w):=by
 have hcs : (0 <= c /\ c <= 15) \/ (16 <= c /\ c <= 31) \/ (32 <= c /\ c <= 63) \/ (64 <= c /\ c <= 95) \/ (96 <= c /\ c <= 103) \/ (104 <= c /\ c <= 111) \/ c = 112 \/ c = 113 \/ c = 114 \/ c = 115 \/ c = 116 \/ c = 117 \/ c = 118 \/ c = 119 \/ c = 120 \/ c = 121 \/ c = 122 \/ c = 123 \/ c = 124 \/ c = 125 \/ (126 <= c /\ c <= 134) \/ c = 135 \/ c = 136 \/ c = 137 \/ (138 <= c /\ c <= 143) \/ (144 <= c /\ c <= 151) \/ (152 <= c /\ c <= 159) \/ (160 <= c /\ c <= 175) \/ (176 <= c /\ c <= 191) \/ (192 <= c /\ c <= 207) \/ (208 <= c /\ c <= 255):=by omega
 rcases hcs with hc | hc | hc | hc | hc | hc | rfl | rfl | rfl | rfl | rfl | rfl | rfl | rfl | rfl | rfl | rfl | rfl | rfl | rfl | hc | rfl | rfl | rfl | hc | hc | hc | hc | hc | hc | hc
 ·refine (short_a c w hc).mono fun e w' hr => Ret1.of hr ?_;have e1 : (oneM c).1 = ⟨1, c, 0, 1⟩:=by unfold oneM; (repeat (first | rw [if_pos (by omega)] | rw [if_neg (by omega)]))
  rw [e1]
 ·refine (short_b c w hc).mono fun e w' hr => Ret1.of hr ?_;have e1 : (oneM c).1 = ⟨2, (c - 16), 0, 1⟩:=by unfold oneM; (repeat (first | rw [if_pos (by omega)] | rw [if_neg (by omega)]))
  rw [e1]
 ·refine (short_c c w hc).mono fun e w' hr => Ret1.of hr ?_;have e1 : (oneM c).1 = ⟨3, (c - 32), 0, 1⟩:=by unfold oneM; (repeat (first | rw [if_pos (by omega)] | rw [if_neg (by omega)]))
  rw [e1]
 ·refine (short_d c w hc).mono fun e w' hr => Ret1.of hr ?_;have e1 : (oneM c).1 = ⟨4, (c - 64), 0, 1⟩:=by unfold oneM; (repeat (first | rw [if_pos (by omega)] | rw [if_neg (by omega)]))
  rw [e1]
 ·refine (short_e c w hc).mono fun e w' hr => Ret1.of hr ?_;have e1 : (oneM c).1 = ⟨8, (c - 96), 0, 1⟩:=by unfold oneM; (repeat (first | rw [if_pos (by omega)] | rw [if_neg (by omega)]))
  rw [e1]
 ·refine (short_f c w hc).mono fun e w' hr => Ret1.of hr ?_;have e1 : (oneM c).1 = ⟨9, (c - 104), 0, 1⟩:=by unfold oneM; (repeat (first | rw [if_pos (by omega)] | rw [if_neg (by omega)]))
  rw [e1]
 ·exact (short_112 w).mono fun e w' hr => Ret1.of hr (by simp [oneM])
 ·exact (short_113 w).mono fun e w' hr => Ret1.of hr (by simp [oneM, constM])
 ·exact (short_114 w).mono fun e w' hr => Ret1.of hr (by simp [oneM, constM])
 ·exact (short_115 w).mono fun e w' hr => Ret1.of hr (by simp [oneM, constM])
 ·exact (short_116 w).mono fun e w' hr => Ret1.of hr (by simp [oneM, constM])
 ·exact (short_117 w).mono fun e w' hr => Ret1.of hr (by simp [oneM, constM])
 ·exact (short_118 w).mono fun e w' hr => Ret1.of hr (by simp [oneM, constM])
 ·exact (short_119 w).mono fun e w' hr => Ret1.of hr (by simp [oneM, constM])
 ·exact (short_120 w).mono fun e w' hr => Ret1.of hr (by simp [oneM])
 ·exact (short_121 w).mono fun e w' hr => Ret1.of hr (by simp [oneM, constM])
 ·exact (short_122 w).mono fun e w' hr => Ret1.of hr (by simp [oneM, constM])
 ·exact (short_123 w).mono fun e w' hr => Ret1.of hr (by simp [oneM, constM])
 ·exact (short_124 w).mono fun e w' hr => Ret1.of hr (by simp [oneM])
 ·exact (short_125 w).mono fun e w' hr => Ret1.of hr (by simp [oneM])
 ·refine (short_g c w hc).mono fun e w' hr => Ret1.of hr ?_;have e1 : (oneM c).1 = ⟨0, 0, 0, 1⟩:=by unfold oneM; (repeat (first | rw [if_pos (by omega)] | rw [if_neg (by omega)]))
  rw [e1]
 ·exact (short_135 w).mono fun e w' hr => Ret1.of hr (by simp [oneM])
 ·exact (short_136 w).mono fun e w' hr => Ret1.of hr (by simp [oneM])
 ·exact (short_137 w).mono fun e w' hr => Ret1.of hr (by simp [oneM])
 ·refine (short_h c w hc).mono fun e w' hr => Ret1.of hr ?_;have e1 : (oneM c).1 = ⟨0, 0, 0, 1⟩:=by unfold oneM; (repeat (first | rw [if_pos (by omega)] | rw [if_neg (by omega)]))
  rw [e1]
 ·refine (short_i c w hc).mono fun e w' hr => Ret1.of hr ?_;have e1 : (oneM c).1 = ⟨22, (c - 143), 0, 1⟩:=by unfold oneM; (repeat (first | rw [if_pos (by omega)] | rw [if_neg (by omega)]))
  rw [e1]
 ·refine (short_j c w hc).mono fun e w' hr => Ret1.of hr ?_;have e1 : (oneM c).1 = ⟨24, (c - 151), 0, 1⟩:=by unfold oneM; (repeat (first | rw [if_pos (by omega)] | rw [if_neg (by omega)]))
  rw [e1]
 ·refine (short_k c w hc).mono fun e w' hr => Ret1.of hr ?_;have e1 : (oneM c).1 = ⟨0, 0, 0, 1⟩:=by unfold oneM; (repeat (first | rw [if_pos (by omega)] | rw [if_neg (by omega)]))
  rw [e1]
 ·refine (short_l c w hc).mono fun e w' hr => Ret1.of hr ?_;have e1 : (oneM c).1 = ⟨25, (c - 176), 0, 1⟩:=by unfold oneM; (repeat (first | rw [if_pos (by omega)] | rw [if_neg (by omega)]))
  rw [e1]
 ·refine (short_m c w hc).mono fun e w' hr => Ret1.of hr ?_;have e1 : (oneM c).1 = ⟨26, (c - 192), 0, 1⟩:=by unfold oneM; (repeat (first | rw [if_pos (by omega)] | rw [if_neg (by omega)]))
  rw [e1]
 ·refine (short_n c w hc).mono fun e w' hr => Ret1.of hr ?_;have e1 : (oneM c).1 = ⟨17, (c % 16), ((c - 208) / 16), 1⟩:=by unfold oneM; (repeat (first | rw [if_pos (by omega)] | rw [if_neg (by omega)]))
  have e2 : (c - 208) / 16 = c / 16 - 13:=by omega
  rw [e1, e2]
theorem wide_128_0 (n m : Int) (w : World) (h : 0 <= n /\ n <= 63) :
  Calls Tryz.prog 115 #[.int .i64 128, .int .i64 n, .int .i64 m] w (Ret1 ⟨1, (n % 64), 0, 0⟩ w):=by
 have hq : n / 64 = 0:=by omega
 go_enter Tryz.func115, Tryz.ntmps115;go_wp2_with (go_at_call 132; refine (op_any _ _ _ _).mono ?_; rintro e w2 ⟨rfl, rfl⟩);exact bodyPost_ret (results_cell_row Tryz.results115 _ _ w.heap.size 139 _ (0, 0) _ rfl ((Blk.new w 139 #[.int .i64 1, .int .i64 (n % 64), .int .i64 0, .int .i64 0]).alloc _) Tryz.underlying139 rfl size25) rfl ⟨rfl, ((Below.refl _ w).alloc (Nat.le_refl _) _).alloc (by simp) _⟩
theorem wide_128_1 (n m : Int) (w : World) (h : 64 <= n /\ n <= 127) :
  Calls Tryz.prog 115 #[.int .i64 128, .int .i64 n, .int .i64 m] w (Ret1 ⟨2, (n % 64), 0, 0⟩ w):=by
 have hq : n / 64 = 1:=by omega
 go_enter Tryz.func115, Tryz.ntmps115;go_wp2_with (go_at_call 132; refine (op_any _ _ _ _).mono ?_; rintro e w2 ⟨rfl, rfl⟩);exact bodyPost_ret (results_cell_row Tryz.results115 _ _ w.heap.size 139 _ (0, 0) _ rfl ((Blk.new w 139 #[.int .i64 2, .int .i64 (n % 64), .int .i64 0, .int .i64 0]).alloc _) Tryz.underlying139 rfl size25) rfl ⟨rfl, ((Below.refl _ w).alloc (Nat.le_refl _) _).alloc (by simp) _⟩
theorem wide_128_2 (n m : Int) (w : World) (h : 128 <= n /\ n <= 191) :
  Calls Tryz.prog 115 #[.int .i64 128, .int .i64 n, .int .i64 m] w (Ret1 ⟨3, (n % 64), 0, 0⟩ w):=by
 have hq : n / 64 = 2:=by omega
 go_enter Tryz.func115, Tryz.ntmps115;go_wp2_with (go_at_call 132; refine (op_any _ _ _ _).mono ?_; rintro e w2 ⟨rfl, rfl⟩);exact bodyPost_ret (results_cell_row Tryz.results115 _ _ w.heap.size 139 _ (0, 0) _ rfl ((Blk.new w 139 #[.int .i64 3, .int .i64 (n % 64), .int .i64 0, .int .i64 0]).alloc _) Tryz.underlying139 rfl size25) rfl ⟨rfl, ((Below.refl _ w).alloc (Nat.le_refl _) _).alloc (by simp) _⟩
theorem wide_128_3 (n m : Int) (w : World) (h : 192 <= n /\ n <= 255) :
  Calls Tryz.prog 115 #[.int .i64 128, .int .i64 n, .int .i64 m] w (Ret1 ⟨4, (n % 64), 0, 0⟩ w):=by
 have hq : n / 64 = 3:=by omega
 go_enter Tryz.func115, Tryz.ntmps115;go_wp2_with (go_at_call 132; refine (op_any _ _ _ _).mono ?_; rintro e w2 ⟨rfl, rfl⟩);exact bodyPost_ret (results_cell_row Tryz.results115 _ _ w.heap.size 139 _ (0, 0) _ rfl ((Blk.new w 139 #[.int .i64 4, .int .i64 (n % 64), .int .i64 0, .int .i64 0]).alloc _) Tryz.underlying139 rfl size25) rfl ⟨rfl, ((Below.refl _ w).alloc (Nat.le_refl _) _).alloc (by simp) _⟩
theorem wide_129_0 (n m : Int) (w : World) (h : 0 <= n /\ n <= 63) :
  Calls Tryz.prog 115 #[.int .i64 129, .int .i64 n, .int .i64 m] w (Ret1 ⟨5, (n % 64), 0, 0⟩ w):=by
 have hq : n / 64 = 0:=by omega
 go_enter Tryz.func115, Tryz.ntmps115;go_wp2_with (go_at_call 132; refine (op_any _ _ _ _).mono ?_; rintro e w2 ⟨rfl, rfl⟩);exact bodyPost_ret (results_cell_row Tryz.results115 _ _ w.heap.size 139 _ (0, 0) _ rfl ((Blk.new w 139 #[.int .i64 5, .int .i64 (n % 64), .int .i64 0, .int .i64 0]).alloc _) Tryz.underlying139 rfl size25) rfl ⟨rfl, ((Below.refl _ w).alloc (Nat.le_refl _) _).alloc (by simp) _⟩
theorem wide_129_1 (n m : Int) (w : World) (h : 64 <= n /\ n <= 127) :
  Calls Tryz.prog 115 #[.int .i64 129, .int .i64 n, .int .i64 m] w (Ret1 ⟨6, (n % 64), 0, 0⟩ w):=by
 have hq : n / 64 = 1:=by omega
 go_enter Tryz.func115, Tryz.ntmps115;go_wp2_with (go_at_call 132; refine (op_any _ _ _ _).mono ?_; rintro e w2 ⟨rfl, rfl⟩);exact bodyPost_ret (results_cell_row Tryz.results115 _ _ w.heap.size 139 _ (0, 0) _ rfl ((Blk.new w 139 #[.int .i64 6, .int .i64 (n % 64), .int .i64 0, .int .i64 0]).alloc _) Tryz.underlying139 rfl size25) rfl ⟨rfl, ((Below.refl _ w).alloc (Nat.le_refl _) _).alloc (by simp) _⟩
theorem wide_129_2 (n m : Int) (w : World) (h : 128 <= n /\ n <= 191) :
  Calls Tryz.prog 115 #[.int .i64 129, .int .i64 n, .int .i64 m] w (Ret1 ⟨0, 0, 0, 0⟩ w):=by
 have hq : n / 64 = 2:=by omega
 go_enter Tryz.func115, Tryz.ntmps115;go_wp2_with (go_at_call 132; refine (op_any _ _ _ _).mono ?_; rintro e w2 ⟨rfl, rfl⟩);exact bodyPost_ret (results_cell_row Tryz.results115 _ _ w.heap.size 139 _ (0, 0) _ rfl ((Blk.new w 139 #[.int .i64 0, .int .i64 0, .int .i64 0, .int .i64 0]).alloc _) Tryz.underlying139 rfl size25) rfl ⟨rfl, ((Below.refl _ w).alloc (Nat.le_refl _) _).alloc (by simp) _⟩
theorem wide_129_3 (n m : Int) (w : World) (h : 192 <= n /\ n <= 255) :
  Calls Tryz.prog 115 #[.int .i64 129, .int .i64 n, .int .i64 m] w (Ret1 ⟨7, (n % 64), 0, 0⟩ w):=by
 have hq : n / 64 = 3:=by omega
 go_enter Tryz.func115, Tryz.ntmps115;go_wp2_with (go_at_call 132; refine (op_any _ _ _ _).mono ?_; rintro e w2 ⟨rfl, rfl⟩);exact bodyPost_ret (results_cell_row Tryz.results115 _ _ w.heap.size 139 _ (0, 0) _ rfl ((Blk.new w 139 #[.int .i64 7, .int .i64 (n % 64), .int .i64 0, .int .i64 0]).alloc _) Tryz.underlying139 rfl size25) rfl ⟨rfl, ((Below.refl _ w).alloc (Nat.le_refl _) _).alloc (by simp) _⟩
theorem wide_130_0 (n m : Int) (w : World) (h : 0 <= n /\ n <= 63) :
  Calls Tryz.prog 115 #[.int .i64 130, .int .i64 n, .int .i64 m] w (Ret1 ⟨8, (n % 64), 0, 0⟩ w):=by
 have hq : n / 64 = 0:=by omega
 go_enter Tryz.func115, Tryz.ntmps115;go_wp2_with (go_at_call 132; refine (op_any _ _ _ _).mono ?_; rintro e w2 ⟨rfl, rfl⟩);exact bodyPost_ret (results_cell_row Tryz.results115 _ _ w.heap.size 139 _ (0, 0) _ rfl ((Blk.new w 139 #[.int .i64 8, .int .i64 (n % 64), .int .i64 0, .int .i64 0]).alloc _) Tryz.underlying139 rfl size25) rfl ⟨rfl, ((Below.refl _ w).alloc (Nat.le_refl _) _).alloc (by simp) _⟩
theorem wide_130_1 (n m : Int) (w : World) (h : 64 <= n /\ n <= 127) :
  Calls Tryz.prog 115 #[.int .i64 130, .int .i64 n, .int .i64 m] w (Ret1 ⟨9, (n % 64), 0, 0⟩ w):=by
 have hq : n / 64 = 1:=by omega
 go_enter Tryz.func115, Tryz.ntmps115;go_wp2_with (go_at_call 132; refine (op_any _ _ _ _).mono ?_; rintro e w2 ⟨rfl, rfl⟩);exact bodyPost_ret (results_cell_row Tryz.results115 _ _ w.heap.size 139 _ (0, 0) _ rfl ((Blk.new w 139 #[.int .i64 9, .int .i64 (n % 64), .int .i64 0, .int .i64 0]).alloc _) Tryz.underlying139 rfl size25) rfl ⟨rfl, ((Below.refl _ w).alloc (Nat.le_refl _) _).alloc (by simp) _⟩
theorem wide_130_2 (n m : Int) (w : World) (h : 128 <= n /\ n <= 191) :
  Calls Tryz.prog 115 #[.int .i64 130, .int .i64 n, .int .i64 m] w (Ret1 ⟨0, 0, 0, 0⟩ w):=by
 have hq : n / 64 = 2:=by omega
 go_enter Tryz.func115, Tryz.ntmps115;go_wp2_with (go_at_call 132; refine (op_any _ _ _ _).mono ?_; rintro e w2 ⟨rfl, rfl⟩);exact bodyPost_ret (results_cell_row Tryz.results115 _ _ w.heap.size 139 _ (0, 0) _ rfl ((Blk.new w 139 #[.int .i64 0, .int .i64 0, .int .i64 0, .int .i64 0]).alloc _) Tryz.underlying139 rfl size25) rfl ⟨rfl, ((Below.refl _ w).alloc (Nat.le_refl _) _).alloc (by simp) _⟩
theorem wide_130_3 (n m : Int) (w : World) (h : 192 <= n /\ n <= 255) :
  Calls Tryz.prog 115 #[.int .i64 130, .int .i64 n, .int .i64 m] w (Ret1 ⟨10, (n % 64), 0, 0⟩ w):=by
 have hq : n / 64 = 3:=by omega
 go_enter Tryz.func115, Tryz.ntmps115;go_wp2_with (go_at_call 132; refine (op_any _ _ _ _).mono ?_; rintro e w2 ⟨rfl, rfl⟩);exact bodyPost_ret (results_cell_row Tryz.results115 _ _ w.heap.size 139 _ (0, 0) _ rfl ((Blk.new w 139 #[.int .i64 10, .int .i64 (n % 64), .int .i64 0, .int .i64 0]).alloc _) Tryz.underlying139 rfl size25) rfl ⟨rfl, ((Below.refl _ w).alloc (Nat.le_refl _) _).alloc (by simp) _⟩
theorem wide_131 (n m : Int) (w : World) (h : 0 <= n /\ n <= 255) :
  Calls Tryz.prog 115 #[.int .i64 131, .int .i64 n, .int .i64 m] w (Ret1 ⟨17, (n % 32), (n / 32), 0⟩ w):=by
 go_enter Tryz.func115, Tryz.ntmps115;go_wp2_with (go_at_call 132; refine (op_any _ _ _ _).mono ?_; rintro e w2 ⟨rfl, rfl⟩);exact bodyPost_ret (results_cell_row Tryz.results115 _ _ w.heap.size 139 _ (0, 0) _ rfl ((Blk.new w 139 #[.int .i64 17, .int .i64 (n % 32), .int .i64 (n / 32), .int .i64 0]).alloc _) Tryz.underlying139 rfl size25) rfl ⟨rfl, ((Below.refl _ w).alloc (Nat.le_refl _) _).alloc (by simp) _⟩
theorem wide_132 (n m : Int) (w : World)  :
  Calls Tryz.prog 115 #[.int .i64 132, .int .i64 n, .int .i64 m] w (Ret1 ⟨17, m, n, 0⟩ w):=by
 go_enter Tryz.func115, Tryz.ntmps115;go_wp2_with (go_at_call 132; refine (op_any _ _ _ _).mono ?_; rintro e w2 ⟨rfl, rfl⟩);exact bodyPost_ret (results_cell_row Tryz.results115 _ _ w.heap.size 139 _ (0, 0) _ rfl ((Blk.new w 139 #[.int .i64 17, .int .i64 m, .int .i64 n, .int .i64 0]).alloc _) Tryz.underlying139 rfl size25) rfl ⟨rfl, ((Below.refl _ w).alloc (Nat.le_refl _) _).alloc (by simp) _⟩
theorem wide_133 (n m : Int) (w : World) (h : 0 <= n /\ n <= 255) :
  Calls Tryz.prog 115 #[.int .i64 133, .int .i64 n, .int .i64 m] w (Ret1 ⟨18, (n % 32), (n / 32), 0⟩ w):=by
 go_enter Tryz.func115, Tryz.ntmps115;go_wp2_with (go_at_call 132; refine (op_any _ _ _ _).mono ?_; rintro e w2 ⟨rfl, rfl⟩);exact bodyPost_ret (results_cell_row Tryz.results115 _ _ w.heap.size 139 _ (0, 0) _ rfl ((Blk.new w 139 #[.int .i64 18, .int .i64 (n % 32), .int .i64 (n / 32), .int .i64 0]).alloc _) Tryz.underlying139 rfl size25) rfl ⟨rfl, ((Below.refl _ w).alloc (Nat.le_refl _) _).alloc (by simp) _⟩
theorem wide_134 (n m : Int) (w : World)  :
  Calls Tryz.prog 115 #[.int .i64 134, .int .i64 n, .int .i64 m] w (Ret1 ⟨18, m, n, 0⟩ w):=by
 go_enter Tryz.func115, Tryz.ntmps115;go_wp2_with (go_at_call 132; refine (op_any _ _ _ _).mono ?_; rintro e w2 ⟨rfl, rfl⟩);exact bodyPost_ret (results_cell_row Tryz.results115 _ _ w.heap.size 139 _ (0, 0) _ rfl ((Blk.new w 139 #[.int .i64 18, .int .i64 m, .int .i64 n, .int .i64 0]).alloc _) Tryz.underlying139 rfl size25) rfl ⟨rfl, ((Below.refl _ w).alloc (Nat.le_refl _) _).alloc (by simp) _⟩
theorem wide_160 (n m : Int) (w : World) (h : 0 <= n /\ n <= 255) :
  Calls Tryz.prog 115 #[.int .i64 160, .int .i64 n, .int .i64 m] w (Ret1 ⟨22, (-1024 + n), 0, 0⟩ w):=by
 go_enter Tryz.func115, Tryz.ntmps115;go_wp2_with (go_at_call 132; refine (op_any _ _ _ _).mono ?_; rintro e w2 ⟨rfl, rfl⟩);exact bodyPost_ret (results_cell_row Tryz.results115 _ _ w.heap.size 139 _ (0, 0) _ rfl ((Blk.new w 139 #[.int .i64 22, .int .i64 (-1024 + n), .int .i64 0, .int .i64 0]).alloc _) Tryz.underlying139 rfl size25) rfl ⟨rfl, ((Below.refl _ w).alloc (Nat.le_refl _) _).alloc (by simp) _⟩
theorem wide_161 (n m : Int) (w : World) (h : 0 <= n /\ n <= 255) :
  Calls Tryz.prog 115 #[.int .i64 161, .int .i64 n, .int .i64 m] w (Ret1 ⟨22, (-768 + n), 0, 0⟩ w):=by
 go_enter Tryz.func115, Tryz.ntmps115;go_wp2_with (go_at_call 132; refine (op_any _ _ _ _).mono ?_; rintro e w2 ⟨rfl, rfl⟩);exact bodyPost_ret (results_cell_row Tryz.results115 _ _ w.heap.size 139 _ (0, 0) _ rfl ((Blk.new w 139 #[.int .i64 22, .int .i64 (-768 + n), .int .i64 0, .int .i64 0]).alloc _) Tryz.underlying139 rfl size25) rfl ⟨rfl, ((Below.refl _ w).alloc (Nat.le_refl _) _).alloc (by simp) _⟩
theorem wide_162 (n m : Int) (w : World) (h : 0 <= n /\ n <= 255) :
  Calls Tryz.prog 115 #[.int .i64 162, .int .i64 n, .int .i64 m] w (Ret1 ⟨22, (-512 + n), 0, 0⟩ w):=by
 go_enter Tryz.func115, Tryz.ntmps115;go_wp2_with (go_at_call 132; refine (op_any _ _ _ _).mono ?_; rintro e w2 ⟨rfl, rfl⟩);exact bodyPost_ret (results_cell_row Tryz.results115 _ _ w.heap.size 139 _ (0, 0) _ rfl ((Blk.new w 139 #[.int .i64 22, .int .i64 (-512 + n), .int .i64 0, .int .i64 0]).alloc _) Tryz.underlying139 rfl size25) rfl ⟨rfl, ((Below.refl _ w).alloc (Nat.le_refl _) _).alloc (by simp) _⟩
theorem wide_163 (n m : Int) (w : World) (h : 0 <= n /\ n <= 255) :
  Calls Tryz.prog 115 #[.int .i64 163, .int .i64 n, .int .i64 m] w (Ret1 ⟨22, (-256 + n), 0, 0⟩ w):=by
 go_enter Tryz.func115, Tryz.ntmps115;go_wp2_with (go_at_call 132; refine (op_any _ _ _ _).mono ?_; rintro e w2 ⟨rfl, rfl⟩);exact bodyPost_ret (results_cell_row Tryz.results115 _ _ w.heap.size 139 _ (0, 0) _ rfl ((Blk.new w 139 #[.int .i64 22, .int .i64 (-256 + n), .int .i64 0, .int .i64 0]).alloc _) Tryz.underlying139 rfl size25) rfl ⟨rfl, ((Below.refl _ w).alloc (Nat.le_refl _) _).alloc (by simp) _⟩
theorem wide_164 (n m : Int) (w : World) (h : 0 <= n /\ n <= 255) :
  Calls Tryz.prog 115 #[.int .i64 164, .int .i64 n, .int .i64 m] w (Ret1 ⟨22, n, 0, 0⟩ w):=by
 go_enter Tryz.func115, Tryz.ntmps115;go_wp2_with (go_at_call 132; refine (op_any _ _ _ _).mono ?_; rintro e w2 ⟨rfl, rfl⟩);exact bodyPost_ret (results_cell_row Tryz.results115 _ _ w.heap.size 139 _ (0, 0) _ rfl ((Blk.new w 139 #[.int .i64 22, .int .i64 n, .int .i64 0, .int .i64 0]).alloc _) Tryz.underlying139 rfl size25) rfl ⟨rfl, ((Below.refl _ w).alloc (Nat.le_refl _) _).alloc (by simp) _⟩
theorem wide_165 (n m : Int) (w : World) (h : 0 <= n /\ n <= 255) :
  Calls Tryz.prog 115 #[.int .i64 165, .int .i64 n, .int .i64 m] w (Ret1 ⟨22, (256 + n), 0, 0⟩ w):=by
 go_enter Tryz.func115, Tryz.ntmps115;go_wp2_with (go_at_call 132; refine (op_any _ _ _ _).mono ?_; rintro e w2 ⟨rfl, rfl⟩);exact bodyPost_ret (results_cell_row Tryz.results115 _ _ w.heap.size 139 _ (0, 0) _ rfl ((Blk.new w 139 #[.int .i64 22, .int .i64 (256 + n), .int .i64 0, .int .i64 0]).alloc _) Tryz.underlying139 rfl size25) rfl ⟨rfl, ((Below.refl _ w).alloc (Nat.le_refl _) _).alloc (by simp) _⟩
theorem wide_166 (n m : Int) (w : World) (h : 0 <= n /\ n <= 255) :
  Calls Tryz.prog 115 #[.int .i64 166, .int .i64 n, .int .i64 m] w (Ret1 ⟨22, (512 + n), 0, 0⟩ w):=by
 go_enter Tryz.func115, Tryz.ntmps115;go_wp2_with (go_at_call 132; refine (op_any _ _ _ _).mono ?_; rintro e w2 ⟨rfl, rfl⟩);exact bodyPost_ret (results_cell_row Tryz.results115 _ _ w.heap.size 139 _ (0, 0) _ rfl ((Blk.new w 139 #[.int .i64 22, .int .i64 (512 + n), .int .i64 0, .int .i64 0]).alloc _) Tryz.underlying139 rfl size25) rfl ⟨rfl, ((Below.refl _ w).alloc (Nat.le_refl _) _).alloc (by simp) _⟩
theorem wide_167 (n m : Int) (w : World) (h : 0 <= n /\ n <= 255) :
  Calls Tryz.prog 115 #[.int .i64 167, .int .i64 n, .int .i64 m] w (Ret1 ⟨22, (768 + n), 0, 0⟩ w):=by
 go_enter Tryz.func115, Tryz.ntmps115;go_wp2_with (go_at_call 132; refine (op_any _ _ _ _).mono ?_; rintro e w2 ⟨rfl, rfl⟩);exact bodyPost_ret (results_cell_row Tryz.results115 _ _ w.heap.size 139 _ (0, 0) _ rfl ((Blk.new w 139 #[.int .i64 22, .int .i64 (768 + n), .int .i64 0, .int .i64 0]).alloc _) Tryz.underlying139 rfl size25) rfl ⟨rfl, ((Below.refl _ w).alloc (Nat.le_refl _) _).alloc (by simp) _⟩
theorem wide_168 (n m : Int) (w : World) (h : 0 <= n /\ n <= 255) :
  Calls Tryz.prog 115 #[.int .i64 168, .int .i64 n, .int .i64 m] w (Ret1 ⟨23, n, 0, 0⟩ w):=by
 go_enter Tryz.func115, Tryz.ntmps115;go_wp2_with (go_at_call 132; refine (op_any _ _ _ _).mono ?_; rintro e w2 ⟨rfl, rfl⟩);exact bodyPost_ret (results_cell_row Tryz.results115 _ _ w.heap.size 139 _ (0, 0) _ rfl ((Blk.new w 139 #[.int .i64 23, .int .i64 n, .int .i64 0, .int .i64 0]).alloc _) Tryz.underlying139 rfl size25) rfl ⟨rfl, ((Below.refl _ w).alloc (Nat.le_refl _) _).alloc (by simp) _⟩
theorem wide_169 (n m : Int) (w : World) (h : 0 <= n /\ n <= 255) :
  Calls Tryz.prog 115 #[.int .i64 169, .int .i64 n, .int .i64 m] w (Ret1 ⟨23, (256 + n), 0, 0⟩ w):=by
 go_enter Tryz.func115, Tryz.ntmps115;go_wp2_with (go_at_call 132; refine (op_any _ _ _ _).mono ?_; rintro e w2 ⟨rfl, rfl⟩);exact bodyPost_ret (results_cell_row Tryz.results115 _ _ w.heap.size 139 _ (0, 0) _ rfl ((Blk.new w 139 #[.int .i64 23, .int .i64 (256 + n), .int .i64 0, .int .i64 0]).alloc _) Tryz.underlying139 rfl size25) rfl ⟨rfl, ((Below.refl _ w).alloc (Nat.le_refl _) _).alloc (by simp) _⟩
theorem wide_170 (n m : Int) (w : World) (h : 0 <= n /\ n <= 255) :
  Calls Tryz.prog 115 #[.int .i64 170, .int .i64 n, .int .i64 m] w (Ret1 ⟨23, (512 + n), 0, 0⟩ w):=by
 go_enter Tryz.func115, Tryz.ntmps115;go_wp2_with (go_at_call 132; refine (op_any _ _ _ _).mono ?_; rintro e w2 ⟨rfl, rfl⟩);exact bodyPost_ret (results_cell_row Tryz.results115 _ _ w.heap.size 139 _ (0, 0) _ rfl ((Blk.new w 139 #[.int .i64 23, .int .i64 (512 + n), .int .i64 0, .int .i64 0]).alloc _) Tryz.underlying139 rfl size25) rfl ⟨rfl, ((Below.refl _ w).alloc (Nat.le_refl _) _).alloc (by simp) _⟩
theorem wide_171 (n m : Int) (w : World) (h : 0 <= n /\ n <= 255) :
  Calls Tryz.prog 115 #[.int .i64 171, .int .i64 n, .int .i64 m] w (Ret1 ⟨23, (768 + n), 0, 0⟩ w):=by
 go_enter Tryz.func115, Tryz.ntmps115;go_wp2_with (go_at_call 132; refine (op_any _ _ _ _).mono ?_; rintro e w2 ⟨rfl, rfl⟩);exact bodyPost_ret (results_cell_row Tryz.results115 _ _ w.heap.size 139 _ (0, 0) _ rfl ((Blk.new w 139 #[.int .i64 23, .int .i64 (768 + n), .int .i64 0, .int .i64 0]).alloc _) Tryz.underlying139 rfl size25) rfl ⟨rfl, ((Below.refl _ w).alloc (Nat.le_refl _) _).alloc (by simp) _⟩
theorem wide_172 (n m : Int) (w : World) (h : 0 <= n /\ n <= 255) :
  Calls Tryz.prog 115 #[.int .i64 172, .int .i64 n, .int .i64 m] w (Ret1 ⟨24, n, 0, 0⟩ w):=by
 go_enter Tryz.func115, Tryz.ntmps115;go_wp2_with (go_at_call 132; refine (op_any _ _ _ _).mono ?_; rintro e w2 ⟨rfl, rfl⟩);exact bodyPost_ret (results_cell_row Tryz.results115 _ _ w.heap.size 139 _ (0, 0) _ rfl ((Blk.new w 139 #[.int .i64 24, .int .i64 n, .int .i64 0, .int .i64 0]).alloc _) Tryz.underlying139 rfl size25) rfl ⟨rfl, ((Below.refl _ w).alloc (Nat.le_refl _) _).alloc (by simp) _⟩
theorem wide_173 (n m : Int) (w : World) (h : 0 <= n /\ n <= 255) :
  Calls Tryz.prog 115 #[.int .i64 173, .int .i64 n, .int .i64 m] w (Ret1 ⟨24, (256 + n), 0, 0⟩ w):=by
 go_enter Tryz.func115, Tryz.ntmps115;go_wp2_with (go_at_call 132; refine (op_any _ _ _ _).mono ?_; rintro e w2 ⟨rfl, rfl⟩);exact bodyPost_ret (results_cell_row Tryz.results115 _ _ w.heap.size 139 _ (0, 0) _ rfl ((Blk.new w 139 #[.int .i64 24, .int .i64 (256 + n), .int .i64 0, .int .i64 0]).alloc _) Tryz.underlying139 rfl size25) rfl ⟨rfl, ((Below.refl _ w).alloc (Nat.le_refl _) _).alloc (by simp) _⟩
theorem wide_174 (n m : Int) (w : World) (h : 0 <= n /\ n <= 255) :
  Calls Tryz.prog 115 #[.int .i64 174, .int .i64 n, .int .i64 m] w (Ret1 ⟨24, (512 + n), 0, 0⟩ w):=by
 go_enter Tryz.func115, Tryz.ntmps115;go_wp2_with (go_at_call 132; refine (op_any _ _ _ _).mono ?_; rintro e w2 ⟨rfl, rfl⟩);exact bodyPost_ret (results_cell_row Tryz.results115 _ _ w.heap.size 139 _ (0, 0) _ rfl ((Blk.new w 139 #[.int .i64 24, .int .i64 (512 + n), .int .i64 0, .int .i64 0]).alloc _) Tryz.underlying139 rfl size25) rfl ⟨rfl, ((Below.refl _ w).alloc (Nat.le_refl _) _).alloc (by simp) _⟩
theorem wide_175 (n m : Int) (w : World) (h : 0 <= n /\ n <= 255) :
  Calls Tryz.prog 115 #[.int .i64 175, .int .i64 n, .int .i64 m] w (Ret1 ⟨24, (768 + n), 0, 0⟩ w):=by
 go_enter Tryz.func115, Tryz.ntmps115;go_wp2_with (go_at_call 132; refine (op_any _ _ _ _).mono ?_; rintro e w2 ⟨rfl, rfl⟩);exact bodyPost_ret (results_cell_row Tryz.results115 _ _ w.heap.size 139 _ (0, 0) _ rfl ((Blk.new w 139 #[.int .i64 24, .int .i64 (768 + n), .int .i64 0, .int .i64 0]).alloc _) Tryz.underlying139 rfl size25) rfl ⟨rfl, ((Below.refl _ w).alloc (Nat.le_refl _) _).alloc (by simp) _⟩
theorem cwide_any (c n m : Int) (w : World) (hc : longC c) (h : 0 <= n /\ n <= 255) :
  Calls Tryz.prog 115 #[.int .i64 c, .int .i64 n, .int .i64 m] w (Ret1 { moreM c n m with l:=0 } w):=by
 have hcs : c = 128 \/ c = 129 \/ c = 130 \/ c = 131 \/ c = 132 \/ c = 133 \/ c = 134 \/ c = 160 \/ c = 161 \/ c = 162 \/ c = 163 \/ c = 164 \/ c = 165 \/ c = 166 \/ c = 167 \/ c = 168 \/ c = 169 \/ c = 170 \/ c = 171 \/ c = 172 \/ c = 173 \/ c = 174 \/ c = 175:=by rcases hc with hc | hc <;> omega
 have hn : (0 <= n /\ n <= 63) \/ (64 <= n /\ n <= 127) \/ (128 <= n /\ n <= 191) \/ (192 <= n /\ n <= 255):=by omega
 rcases hcs with rfl | rfl | rfl | rfl | rfl | rfl | rfl | rfl | rfl | rfl | rfl | rfl | rfl | rfl | rfl | rfl | rfl | rfl | rfl | rfl | rfl | rfl | rfl
 ·rcases hn with h1 | h1 | h1 | h1
  ·refine (wide_128_0 n m w h1).mono fun e w' hr => Ret1.of hr ?_;have hq : n / 64 = 0:=by omega
   simp [moreM, storeK, hq]
  ·refine (wide_128_1 n m w h1).mono fun e w' hr => Ret1.of hr ?_;have hq : n / 64 = 1:=by omega
   simp [moreM, storeK, hq]
  ·refine (wide_128_2 n m w h1).mono fun e w' hr => Ret1.of hr ?_;have hq : n / 64 = 2:=by omega
   simp [moreM, storeK, hq]
  ·refine (wide_128_3 n m w h1).mono fun e w' hr => Ret1.of hr ?_;have hq : n / 64 = 3:=by omega
   simp [moreM, storeK, hq]
 ·rcases hn with h1 | h1 | h1 | h1
  ·refine (wide_129_0 n m w h1).mono fun e w' hr => Ret1.of hr ?_;have hq : n / 64 = 0:=by omega
   simp [moreM, storeK, hq]
  ·refine (wide_129_1 n m w h1).mono fun e w' hr => Ret1.of hr ?_;have hq : n / 64 = 1:=by omega
   simp [moreM, storeK, hq]
  ·refine (wide_129_2 n m w h1).mono fun e w' hr => Ret1.of hr ?_;have hq : n / 64 = 2:=by omega
   simp [moreM, storeK, hq]
  ·refine (wide_129_3 n m w h1).mono fun e w' hr => Ret1.of hr ?_;have hq : n / 64 = 3:=by omega
   simp [moreM, storeK, hq]
 ·rcases hn with h1 | h1 | h1 | h1
  ·refine (wide_130_0 n m w h1).mono fun e w' hr => Ret1.of hr ?_;have hq : n / 64 = 0:=by omega
   simp [moreM, storeK, hq]
  ·refine (wide_130_1 n m w h1).mono fun e w' hr => Ret1.of hr ?_;have hq : n / 64 = 1:=by omega
   simp [moreM, storeK, hq]
  ·refine (wide_130_2 n m w h1).mono fun e w' hr => Ret1.of hr ?_;have hq : n / 64 = 2:=by omega
   simp [moreM, storeK, hq]
  ·refine (wide_130_3 n m w h1).mono fun e w' hr => Ret1.of hr ?_;have hq : n / 64 = 3:=by omega
   simp [moreM, storeK, hq]
 ·exact (wide_131 n m w h).mono fun e w' hr => Ret1.of hr (by simp [moreM])
 ·exact (wide_132 n m w).mono fun e w' hr => Ret1.of hr (by simp [moreM])
 ·exact (wide_133 n m w h).mono fun e w' hr => Ret1.of hr (by simp [moreM])
 ·exact (wide_134 n m w).mono fun e w' hr => Ret1.of hr (by simp [moreM])
 ·exact (wide_160 n m w h).mono fun e w' hr => Ret1.of hr (by simp [moreM])
 ·exact (wide_161 n m w h).mono fun e w' hr => Ret1.of hr (by simp [moreM])
 ·exact (wide_162 n m w h).mono fun e w' hr => Ret1.of hr (by simp [moreM])
 ·exact (wide_163 n m w h).mono fun e w' hr => Ret1.of hr (by simp [moreM])
 ·exact (wide_164 n m w h).mono fun e w' hr => Ret1.of hr (by simp [moreM])
 ·exact (wide_165 n m w h).mono fun e w' hr => Ret1.of hr (by simp [moreM])
 ·exact (wide_166 n m w h).mono fun e w' hr => Ret1.of hr (by simp [moreM])
 ·exact (wide_167 n m w h).mono fun e w' hr => Ret1.of hr (by simp [moreM])
 ·exact (wide_168 n m w h).mono fun e w' hr => Ret1.of hr (by simp [moreM])
 ·exact (wide_169 n m w h).mono fun e w' hr => Ret1.of hr (by simp [moreM])
 ·exact (wide_170 n m w h).mono fun e w' hr => Ret1.of hr (by simp [moreM])
 ·exact (wide_171 n m w h).mono fun e w' hr => Ret1.of hr (by simp [moreM])
 ·exact (wide_172 n m w h).mono fun e w' hr => Ret1.of hr (by simp [moreM])
 ·exact (wide_173 n m w h).mono fun e w' hr => Ret1.of hr (by simp [moreM])
 ·exact (wide_174 n m w h).mono fun e w' hr => Ret1.of hr (by simp [moreM])
 ·exact (wide_175 n m w h).mono fun e w' hr => Ret1.of hr (by simp [moreM])
end Go.Proofs.YtgaemfghpibeeaaGreatDoor
