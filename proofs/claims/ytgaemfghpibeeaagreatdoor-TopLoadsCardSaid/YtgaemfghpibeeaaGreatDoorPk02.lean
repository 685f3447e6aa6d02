/-
  Code.At and ref.At tell the same at any bytes. Conditions: the two tables lie as listed; the bytes can be read.
-/
import Derived.Test.YtgaemfghpibeeaaGreatDoorPk01
import Derived.BigQuiet
import Derived.Deep.DeepCutAuto
import Derived.Deep.QuietTactic
import Derived.Deep.RegionHeld3
import Derived.IntWalk
import Derived.StillTailTactics
set_option maxRecDepth 100000
set_option maxHeartbeats 6000000
open Go.Lib (hid)
open List (getElem?_eq_getElem mem_of_getElem? getElem?_append_left getElem?_append_right getD_eq_getElem?_getD eq_nil_of_length_eq_zero getElem?_eq_none_iff length_replicate take_of_length_le length_set length_append)
namespace Go.Proofs.YtgaemfghpibeeaaGreatDoor
open Go.RowKit
def atN (bs : List Int) (i : Nat) : O4 × Int :=
 if bs.length <= i then (⟨0, 0, 0, 0⟩, 4)
 else if (oneM (bs.getD i 0)).2 = true then ((oneM (bs.getD i 0)).1, 0)
 else if bs.length < i + 2 \/ ((bs.getD i 0 = 132 \/ bs.getD i 0 = 134) /\ bs.length < i + 3) then (⟨0, 0, 0, 0⟩, 5)
 else (moreM (bs.getD i 0) (bs.getD (i + 1) 0) (bs.getD (i + 2) 0), 0)
def atM (bs : List Int) (i : Int) : O4 × Int:=if i < 0 then (⟨0, 0, 0, 0⟩, 4) else atN bs i.toNat
def RetE (r : O4 × Int) (w : World) (e : Ending) (w' : World) : Prop :=
 e = .returned (.tuple #[.agg #[.int .i64 r.1.k, .int .i64 r.1.n, .int .i64 r.1.m, .int .i64 r.1.l], .int .i64 r.2]) /\ Below w.heap.size w w'
theorem oneM_long (c : Int) (h : 0 <= c /\ c <= 255) : (oneM c).2 = false ↔ longC c:=by
 unfold longC;have key : ∀ n : Nat, n < 256 -> ((oneM n).2 = false ↔ (128 <= (n : Int) /\ (n : Int) <= 134) \/ (160 <= (n : Int) /\ (n : Int) <= 175)):=by decide +kernel
 have:=key c.toNat (by omega);rw [show ((c.toNat : Nat) : Int) = c from by omega] at this;exact this
theorem cat_none (w : World) (A : Option Addr) (len cap : Nat) (i : Int) (hi : i < 0 \/ (len : Int) <= i) :
  Calls Tryz.prog 130 #[.slice A len cap, .int .i64 i] w (RetE (⟨0, 0, 0, 0⟩, 4) w):=by
 by_cases h0 : i < 0
 ·clear hi;go_enter Tryz.func130, Tryz.ntmps130;go_wp2;exact bodyPost_ret (results_cell_tmp Tryz.results130 _ _ w.heap.size 139 _ (0, 0) _ rfl (Blk.new w 139 _) Tryz.underlying139 rfl size25) rfl ⟨rfl, (Below.refl _ w).alloc (Nat.le_refl _) _⟩
 ·have h1 : (len : Int) <= i:=by omega
  clear hi;go_enter Tryz.func130, Tryz.ntmps130;go_wp2;exact bodyPost_ret (results_cell_tmp Tryz.results130 _ _ w.heap.size 139 _ (0, 0) _ rfl (Blk.new w 139 _) Tryz.underlying139 rfl size25) rfl ⟨rfl, (Below.refl _ w).alloc (Nat.le_refl _) _⟩
theorem cat_one (w : World) (b off len cap i : Nat) (c : Int) (o : O4) (ht : Tabs w) (hi : i < len) (hc : 0 <= c /\ c <= 255) (hb : b < w.heap.size)
  (hcell : w.cell? ⟨b, off + i, none⟩ = some (.int .u8 c)) (hone : oneM c = (o, true)) :
  Calls Tryz.prog 130 #[.slice (some ⟨b, off, none⟩) len cap, .int .i64 i] w (RetE (o, 0) w):=by
 have HO:=hid hone;clear hone;have ht1:=ht.alloc (.cells #[.int .i64 0, .int .i64 0, .int .i64 0, .int .i64 0] 139);have b1:=Blk.new w 139 #[.int .i64 0, .int .i64 0, .int .i64 0, .int .i64 0];have hb1:=(Below.refl w.heap.size w).alloc (Nat.le_refl _) (.cells #[.int .i64 0, .int .i64 0, .int .i64 0, .int .i64 0] 139);go_enter Tryz.func130, Tryz.ntmps130;go_wp2_with fail;refine (one_any _ _ ht1 hc).mono ?_;rintro e w2 hr;unfold Ret2 at hr;rw [HO.out] at hr;obtain ⟨rfl, hb2⟩:=hr;have b2:=b1.keep hb2;have hb2':=hb1.trans (hb2.mono (by simp));have hlt:=b2.lt;have f2:=b2.frozen;have c0:=b2.cell 0;have c1:=b2.cell 1;have c2:=b2.cell 2;have c3:=b2.cell 3;simp at c0 c1 c2 c3;clear hb2 b1 hb1 ht1 ht HO hcell;go_wp2;have b3:=(b2.set4 (.int .i64 o.k) (.int .i64 o.n) (.int .i64 o.m) (.int .i64 o.l)).alloc (.cells #[.int .i64 o.k, .int .i64 o.n, .int .i64 o.m, .int .i64 o.l] 139);exact bodyPost_ret (results_cell_tmp Tryz.results130 _ _ w.heap.size 139 _ (0, 0) _ rfl b3 Tryz.underlying139 rfl size25) rfl ⟨rfl, (below_set4 hb2' (Nat.le_refl _) _ _ _ _).alloc (by simp [World.setCell]; omega) _⟩
theorem cat_form1 (w : World) (b off cap i : Nat) (c : Int) (o : O4) (ht : Tabs w) (hl : cap <= 9223372036854775807) (hi : i + 1 <= cap) (hc : 0 <= c /\ c <= 255) (hb : b < w.heap.size)
  (hcell : w.cell? ⟨b, off + i, none⟩ = some (.int .u8 c)) (hone : oneM c = (o, false)) :
  Calls Tryz.prog 130 #[.slice (some ⟨b, off, none⟩) (i + 1) cap, .int .i64 i] w (RetE (⟨0, 0, 0, 0⟩, 5) w):=by
 have HO:=hid hone;clear hone;have ht1:=ht.alloc (.cells #[.int .i64 0, .int .i64 0, .int .i64 0, .int .i64 0] 139);have b1:=Blk.new w 139 #[.int .i64 0, .int .i64 0, .int .i64 0, .int .i64 0];have hb1:=(Below.refl w.heap.size w).alloc (Nat.le_refl _) (.cells #[.int .i64 0, .int .i64 0, .int .i64 0, .int .i64 0] 139);by_cases hcap : cap = i + 1
 ·subst hcap;go_enter Tryz.func130, Tryz.ntmps130;go_wp2_with fail;refine (one_any _ _ ht1 hc).mono ?_;rintro e w2 hr;unfold Ret2 at hr;rw [HO.out] at hr;obtain ⟨rfl, hb2⟩:=hr;have b2:=b1.keep hb2;have hb2':=hb1.trans (hb2.mono (by simp));have hlt:=b2.lt;have f2:=b2.frozen;have c0:=b2.cell 0;have c1:=b2.cell 1;have c2:=b2.cell 2;have c3:=b2.cell 3;simp at c0 c1 c2 c3;clear b1 hb1 ht1 ht HO hcell hb2;go_wp2;have b3:=(b2.set4 (.int .i64 0) (.int .i64 0) (.int .i64 0) (.int .i64 0)).alloc (.cells #[.int .i64 o.k, .int .i64 o.n, .int .i64 o.m, .int .i64 o.l] 139);exact bodyPost_ret (results_cell_tmp Tryz.results130 _ _ w.heap.size 139 _ (0, 0) _ rfl b3 Tryz.underlying139 rfl size25) rfl ⟨rfl, (below_set4 hb2' (Nat.le_refl _) _ _ _ _).alloc (by simp [World.setCell]; omega) _⟩
 ·have hcap' : i + 1 < cap:=by omega
  clear hcap;go_enter Tryz.func130, Tryz.ntmps130;go_wp2_with fail;refine (one_any _ _ ht1 hc).mono ?_;rintro e w2 hr;unfold Ret2 at hr;rw [HO.out] at hr;obtain ⟨rfl, hb2⟩:=hr;have b2:=b1.keep hb2;have hb2':=hb1.trans (hb2.mono (by simp));have hlt:=b2.lt;have f2:=b2.frozen;have c0:=b2.cell 0;have c1:=b2.cell 1;have c2:=b2.cell 2;have c3:=b2.cell 3;simp at c0 c1 c2 c3;clear b1 hb1 ht1 ht HO hcell hb2;go_wp2;have b3:=(b2.set4 (.int .i64 0) (.int .i64 0) (.int .i64 0) (.int .i64 0)).alloc (.cells #[.int .i64 o.k, .int .i64 o.n, .int .i64 o.m, .int .i64 o.l] 139);exact bodyPost_ret (results_cell_tmp Tryz.results130 _ _ w.heap.size 139 _ (0, 0) _ rfl b3 Tryz.underlying139 rfl size25) rfl ⟨rfl, (below_set4 hb2' (Nat.le_refl _) _ _ _ _).alloc (by simp [World.setCell]; omega) _⟩
theorem cat_form2 (w : World) (b off cap i : Nat) (c : Int) (o : O4) (ht : Tabs w) (hl : cap <= 9223372036854775807) (hi : i + 2 <= cap) (hcc : c = 132 \/ c = 134) (hb : b < w.heap.size)
  (hcell : w.cell? ⟨b, off + i, none⟩ = some (.int .u8 c)) (hone : oneM c = (o, false)) :
  Calls Tryz.prog 130 #[.slice (some ⟨b, off, none⟩) (i + 2) cap, .int .i64 i] w (RetE (⟨0, 0, 0, 0⟩, 5) w):=by
 have HO:=hid hone;clear hone;have ht1:=ht.alloc (.cells #[.int .i64 0, .int .i64 0, .int .i64 0, .int .i64 0] 139);have b1:=Blk.new w 139 #[.int .i64 0, .int .i64 0, .int .i64 0, .int .i64 0];have hb1:=(Below.refl w.heap.size w).alloc (Nat.le_refl _) (.cells #[.int .i64 0, .int .i64 0, .int .i64 0, .int .i64 0] 139);have hc : 0 <= c /\ c <= 255:=by omega
 rcases hcc with rfl | rfl
 ·go_enter Tryz.func130, Tryz.ntmps130;go_wp2_with fail;refine (one_any _ _ ht1 hc).mono ?_;rintro e w2 hr;unfold Ret2 at hr;rw [HO.out] at hr;obtain ⟨rfl, hb2⟩:=hr;have b2:=b1.keep hb2;have hb2':=hb1.trans (hb2.mono (by simp));have hlt:=b2.lt;have f2:=b2.frozen;have c0:=b2.cell 0;have c1:=b2.cell 1;have c2:=b2.cell 2;have c3:=b2.cell 3;simp at c0 c1 c2 c3;clear b1 hb1 ht1 ht HO hcell hb2;go_wp2;have b3:=(b2.set4 (.int .i64 0) (.int .i64 0) (.int .i64 0) (.int .i64 0)).alloc (.cells #[.int .i64 o.k, .int .i64 o.n, .int .i64 o.m, .int .i64 o.l] 139);exact bodyPost_ret (results_cell_tmp Tryz.results130 _ _ w.heap.size 139 _ (0, 0) _ rfl b3 Tryz.underlying139 rfl size25) rfl ⟨rfl, (below_set4 hb2' (Nat.le_refl _) _ _ _ _).alloc (by simp [World.setCell]; omega) _⟩
 ·go_enter Tryz.func130, Tryz.ntmps130;go_wp2_with fail;refine (one_any _ _ ht1 hc).mono ?_;rintro e w2 hr;unfold Ret2 at hr;rw [HO.out] at hr;obtain ⟨rfl, hb2⟩:=hr;have b2:=b1.keep hb2;have hb2':=hb1.trans (hb2.mono (by simp));have hlt:=b2.lt;have f2:=b2.frozen;have c0:=b2.cell 0;have c1:=b2.cell 1;have c2:=b2.cell 2;have c3:=b2.cell 3;simp at c0 c1 c2 c3;clear b1 hb1 ht1 ht HO hcell hb2;go_wp2;have b3:=(b2.set4 (.int .i64 0) (.int .i64 0) (.int .i64 0) (.int .i64 0)).alloc (.cells #[.int .i64 o.k, .int .i64 o.n, .int .i64 o.m, .int .i64 o.l] 139);exact bodyPost_ret (results_cell_tmp Tryz.results130 _ _ w.heap.size 139 _ (0, 0) _ rfl b3 Tryz.underlying139 rfl size25) rfl ⟨rfl, (below_set4 hb2' (Nat.le_refl _) _ _ _ _).alloc (by simp [World.setCell]; omega) _⟩
theorem cat_two (w : World) (b off cap i : Nat) (c n : Int) (o : O4) (ht : Tabs w) (hl : cap <= 9223372036854775807) (hi : i + 2 <= cap) (hc : 0 <= c /\ c <= 255) (hn : 0 <= n /\ n <= 255) (hc1 : c ≠ 132) (hc2 : c ≠ 134) (hlc : longC c) (hb : b < w.heap.size)
  (hcell : w.cell? ⟨b, off + i, none⟩ = some (.int .u8 c)) (hcell2 : w.cell? ⟨b, off + (i + 1), none⟩ = some (.int .u8 n)) (hone : oneM c = (o, false)) :
  Calls Tryz.prog 130 #[.slice (some ⟨b, off, none⟩) (i + 2) cap, .int .i64 i] w (RetE (moreM c n 0, 0) w):=by
 have e1 : (c == 132) = false:=by simp; omega
 have e2 : (c == 134) = false:=by simp; omega
 have HO:=hid hone;clear hone;have ht1:=ht.alloc (.cells #[.int .i64 0, .int .i64 0, .int .i64 0, .int .i64 0] 139);have b1:=Blk.new w 139 #[.int .i64 0, .int .i64 0, .int .i64 0, .int .i64 0];have hb1:=(Below.refl w.heap.size w).alloc (Nat.le_refl _) (.cells #[.int .i64 0, .int .i64 0, .int .i64 0, .int .i64 0] 139);go_enter Tryz.func130, Tryz.ntmps130;go_wp2_with fail;refine (one_any _ _ ht1 hc).mono ?_;rintro e w2 hr;unfold Ret2 at hr;rw [HO.out] at hr;obtain ⟨rfl, hb2⟩:=hr;have b2:=b1.keep hb2;have hb2':=hb1.trans (hb2.mono (by simp));have hlt:=b2.lt;have f2:=b2.frozen;have c0:=b2.cell 0;have c1:=b2.cell 1;have c2:=b2.cell 2;have c3:=b2.cell 3;simp at c0 c1 c2 c3;clear b1 hb1 ht1 HO hcell hb2;have hm2 : ∀ o1, (w2.alloc o1).cell? ⟨b, off + (i + 1), none⟩ = some (.int .u8 n):=fun o1 => ((hb2'.alloc (by omega) o1).cell (p:=⟨b, off + (i + 1), none⟩) hb).trans hcell2;have ht2:=fun o1 => (ht.keep hb2').alloc o1;clear c0 c1 c2 c3;go_wp2_with fail;refine (more_any c n 0 _ (ht2 _) hlc hn).mono ?_;rintro e w3 ⟨rfl, hb3⟩;have b3:=(b2.alloc _).keep hb3;have hb3':=(hb2'.alloc (by omega) _).trans (hb3.mono (by simp; omega));have hlt3:=b3.lt;have f3:=b3.frozen;have c0:=b3.cell 0;have c1:=b3.cell 1;have c2:=b3.cell 2;have c3:=b3.cell 3;simp at c0 c1 c2 c3;clear hb3 b2 hb2' ht2 hm2;go_wp2;have b4:=b3.set4 (.int .i64 (moreM c n 0).k) (.int .i64 (moreM c n 0).n) (.int .i64 (moreM c n 0).m) (.int .i64 (moreM c n 0).l);exact bodyPost_ret (results_cell_tmp Tryz.results130 _ _ w.heap.size 139 _ (0, 0) _ rfl b4 Tryz.underlying139 rfl size25) rfl ⟨rfl, below_set4 hb3' (Nat.le_refl _) _ _ _ _⟩
theorem cat_three (w : World) (b off len cap i : Nat) (c n m : Int) (o : O4) (ht : Tabs w) (hl : cap <= 9223372036854775807) (hi : i + 3 <= len) (hlen : len <= cap) (hc : 0 <= c /\ c <= 255) (hn : 0 <= n /\ n <= 255) (hm : 0 <= m /\ m <= 255) (hlc : longC c) (hb : b < w.heap.size)
  (hcell : w.cell? ⟨b, off + i, none⟩ = some (.int .u8 c)) (hcell2 : w.cell? ⟨b, off + (i + 1), none⟩ = some (.int .u8 n)) (hcell3 : w.cell? ⟨b, off + (i + 1) + 1, none⟩ = some (.int .u8 m)) (hone : oneM c = (o, false)) :
  Calls Tryz.prog 130 #[.slice (some ⟨b, off, none⟩) len cap, .int .i64 i] w (RetE (moreM c n m, 0) w):=by
 have hd1 : decide (((len - (i + 1) : Nat) : Int) < 1) = false:=by simp; omega
 have hd2 : decide (((len - (i + 1) : Nat) : Int) < 2) = false:=by simp; omega
 have hd3 : decide ((1 : Int) < ((len - (i + 1) : Nat) : Int)) = true:=by simp; omega
 have HO:=hid hone;clear hone;have ht1:=ht.alloc (.cells #[.int .i64 0, .int .i64 0, .int .i64 0, .int .i64 0] 139);have b1:=Blk.new w 139 #[.int .i64 0, .int .i64 0, .int .i64 0, .int .i64 0];have hb1:=(Below.refl w.heap.size w).alloc (Nat.le_refl _) (.cells #[.int .i64 0, .int .i64 0, .int .i64 0, .int .i64 0] 139);have hcc : c = 132 \/ c = 134 \/ ((c == 132) = false /\ (c == 134) = false):=by
  by_cases h1 : c = 132
  ·exact Or.inl h1
  ·by_cases h2 : c = 134
   ·exact Or.inr (Or.inl h2)
   ·exact Or.inr (Or.inr ⟨by simp; omega, by simp; omega⟩)
 rcases hcc with rfl | rfl | ⟨e1, e2⟩
 ·go_enter Tryz.func130, Tryz.ntmps130;go_wp2_with fail;refine (one_any _ _ ht1 hc).mono ?_;rintro e w2 hr;unfold Ret2 at hr;rw [HO.out] at hr;obtain ⟨rfl, hb2⟩:=hr;have b2:=b1.keep hb2;have hb2':=hb1.trans (hb2.mono (by simp));have hlt:=b2.lt;have f2:=b2.frozen;have c0:=b2.cell 0;have c1:=b2.cell 1;have c2:=b2.cell 2;have c3:=b2.cell 3;simp at c0 c1 c2 c3;clear b1 hb1 ht1 HO hcell hb2;have hm2 : ∀ o1, (w2.alloc o1).cell? ⟨b, off + (i + 1), none⟩ = some (.int .u8 n):=fun o1 => ((hb2'.alloc (by omega) o1).cell (p:=⟨b, off + (i + 1), none⟩) hb).trans hcell2;have hm3 : ∀ o1, (w2.alloc o1).cell? ⟨b, off + (i + 1) + 1, none⟩ = some (.int .u8 m):=fun o1 => ((hb2'.alloc (by omega) o1).cell (p:=⟨b, off + (i + 1) + 1, none⟩) hb).trans hcell3;have ht2:=fun o1 => (ht.keep hb2').alloc o1;clear c0 c1 c2 c3;go_wp2_with fail;refine (more_any _ n m _ (ht2 _) hlc hn).mono ?_;rintro e w3 ⟨rfl, hb3⟩;have b3:=(b2.alloc _).keep hb3;have hb3':=(hb2'.alloc (by omega) _).trans (hb3.mono (by simp; omega));have hlt3:=b3.lt;have f3:=b3.frozen;have c0:=b3.cell 0;have c1:=b3.cell 1;have c2:=b3.cell 2;have c3:=b3.cell 3;simp at c0 c1 c2 c3;clear hb3 b2 hb2' ht2 hm2;go_wp2;have b4:=b3.set4 (.int .i64 (moreM 132 n m).k) (.int .i64 (moreM 132 n m).n) (.int .i64 (moreM 132 n m).m) (.int .i64 (moreM 132 n m).l);exact bodyPost_ret (results_cell_tmp Tryz.results130 _ _ w.heap.size 139 _ (0, 0) _ rfl b4 Tryz.underlying139 rfl size25) rfl ⟨rfl, below_set4 hb3' (Nat.le_refl _) _ _ _ _⟩
 ·go_enter Tryz.func130, Tryz.ntmps130;go_wp2_with fail;refine (one_any _ _ ht1 hc).mono ?_;rintro e w2 hr;unfold Ret2 at hr;rw [HO.out] at hr;obtain ⟨rfl, hb2⟩:=hr;have b2:=b1.keep hb2;have hb2':=hb1.trans (hb2.mono (by simp));have hlt:=b2.lt;have f2:=b2.frozen;have c0:=b2.cell 0;have c1:=b2.cell 1;have c2:=b2.cell 2;have c3:=b2.cell 3;simp at c0 c1 c2 c3;clear b1 hb1 ht1 HO hcell hb2;have hm2 : ∀ o1, (w2.alloc o1).cell? ⟨b, off + (i + 1), none⟩ = some (.int .u8 n):=fun o1 => ((hb2'.alloc (by omega) o1).cell (p:=⟨b, off + (i + 1), none⟩) hb).trans hcell2;have hm3 : ∀ o1, (w2.alloc o1).cell? ⟨b, off + (i + 1) + 1, none⟩ = some (.int .u8 m):=fun o1 => ((hb2'.alloc (by omega) o1).cell (p:=⟨b, off + (i + 1) + 1, none⟩) hb).trans hcell3;have ht2:=fun o1 => (ht.keep hb2').alloc o1;clear c0 c1 c2 c3;go_wp2_with fail;refine (more_any _ n m _ (ht2 _) hlc hn).mono ?_;rintro e w3 ⟨rfl, hb3⟩;have b3:=(b2.alloc _).keep hb3;have hb3':=(hb2'.alloc (by omega) _).trans (hb3.mono (by simp; omega));have hlt3:=b3.lt;have f3:=b3.frozen;have c0:=b3.cell 0;have c1:=b3.cell 1;have c2:=b3.cell 2;have c3:=b3.cell 3;simp at c0 c1 c2 c3;clear hb3 b2 hb2' ht2 hm2;go_wp2;have b4:=b3.set4 (.int .i64 (moreM 134 n m).k) (.int .i64 (moreM 134 n m).n) (.int .i64 (moreM 134 n m).m) (.int .i64 (moreM 134 n m).l);exact bodyPost_ret (results_cell_tmp Tryz.results130 _ _ w.heap.size 139 _ (0, 0) _ rfl b4 Tryz.underlying139 rfl size25) rfl ⟨rfl, below_set4 hb3' (Nat.le_refl _) _ _ _ _⟩
 ·go_enter Tryz.func130, Tryz.ntmps130;go_wp2_with fail;refine (one_any _ _ ht1 hc).mono ?_;rintro e w2 hr;unfold Ret2 at hr;rw [HO.out] at hr;obtain ⟨rfl, hb2⟩:=hr;have b2:=b1.keep hb2;have hb2':=hb1.trans (hb2.mono (by simp));have hlt:=b2.lt;have f2:=b2.frozen;have c0:=b2.cell 0;have c1:=b2.cell 1;have c2:=b2.cell 2;have c3:=b2.cell 3;simp at c0 c1 c2 c3;clear b1 hb1 ht1 HO hcell hb2;have hm2 : ∀ o1, (w2.alloc o1).cell? ⟨b, off + (i + 1), none⟩ = some (.int .u8 n):=fun o1 => ((hb2'.alloc (by omega) o1).cell (p:=⟨b, off + (i + 1), none⟩) hb).trans hcell2;have hm3 : ∀ o1, (w2.alloc o1).cell? ⟨b, off + (i + 1) + 1, none⟩ = some (.int .u8 m):=fun o1 => ((hb2'.alloc (by omega) o1).cell (p:=⟨b, off + (i + 1) + 1, none⟩) hb).trans hcell3;have ht2:=fun o1 => (ht.keep hb2').alloc o1;clear c0 c1 c2 c3;go_wp2_with fail;refine (more_any _ n m _ (ht2 _) hlc hn).mono ?_;rintro e w3 ⟨rfl, hb3⟩;have b3:=(b2.alloc _).keep hb3;have hb3':=(hb2'.alloc (by omega) _).trans (hb3.mono (by simp; omega));have hlt3:=b3.lt;have f3:=b3.frozen;have c0:=b3.cell 0;have c1:=b3.cell 1;have c2:=b3.cell 2;have c3:=b3.cell 3;simp at c0 c1 c2 c3;clear hb3 b2 hb2' ht2 hm2;go_wp2;have b4:=b3.set4 (.int .i64 (moreM c n m).k) (.int .i64 (moreM c n m).n) (.int .i64 (moreM c n m).m) (.int .i64 (moreM c n m).l);exact bodyPost_ret (results_cell_tmp Tryz.results130 _ _ w.heap.size 139 _ (0, 0) _ rfl b4 Tryz.underlying139 rfl size25) rfl ⟨rfl, below_set4 hb3' (Nat.le_refl _) _ _ _ _⟩
theorem cgetD_of {bs : List Int} {i : Nat} {v : Int} (h : bs[i]? = some v) : bs.getD i 0 = v:=by simp [List.getD, h]
theorem cat_any (w : World) (A : Option Addr) (bs : List Int) (cap : Nat) (i : Int) (ht : Tabs w) (hcap : cap <= 9223372036854775807) (hlen : bs.length <= cap) (hB : Byts w A bs) :
  Calls Tryz.prog 130 #[.slice A bs.length cap, .int .i64 i] w (RetE (atM bs i) w):=by
 by_cases h0 : i < 0
 ·rw [atM, if_pos h0];exact cat_none w A _ cap i (Or.inl h0)
 obtain ⟨j, rfl⟩ : ∃ j : Nat, i = j:=⟨i.toNat, by omega⟩;rw [atM, if_neg h0, Int.toNat_natCast];by_cases h1 : bs.length <= j
 ·rw [atN, if_pos h1];exact cat_none w A _ cap j (Or.inr (by omega))
 obtain ⟨c, hc⟩ : ∃ c, bs[j]? = some c:=⟨_, getElem?_eq_getElem (by omega)⟩;obtain ⟨hc0, hc1, b, off, rfl, hb, hcell⟩:=hB j c hc;rw [atN, if_neg h1, cgetD_of hc];cases ho : (oneM c).2 with
 | true => rw [if_pos rfl];exact cat_one w b off _ cap j c _ ht (by omega) ⟨hc0, hc1⟩ hb hcell (by rw [<- ho])
 | false =>
  rw [if_neg (by simp)];have hlc:=(oneM_long c ⟨hc0, hc1⟩).1 ho;have hone : oneM c = ((oneM c).1, false):=by rw [<- ho]
  by_cases h2 : bs.length < j + 2
  ·rw [if_pos (Or.inl h2)];have e : bs.length = j + 1:=by omega
   rw [e];exact cat_form1 w b off cap j c _ ht hcap (by omega) ⟨hc0, hc1⟩ hb hcell hone
  obtain ⟨n, hn⟩ : ∃ n, bs[j + 1]? = some n:=⟨_, getElem?_eq_getElem (by omega)⟩;obtain ⟨hn0, hn1, b', off', hA', _, hcell2⟩:=hB (j + 1) n hn;obtain ⟨rfl, rfl⟩ : b = b' /\ off = off':=by simpa using hA'
  by_cases h3 : bs.length < j + 3
  ·have e : bs.length = j + 2:=by omega
   by_cases h4 : c = 132 \/ c = 134
   ·rw [if_pos (Or.inr ⟨h4, h3⟩), e];exact cat_form2 w b off cap j c _ ht hcap (by omega) h4 hb hcell hone
   ·rw [if_neg (by intro h; rcases h with h | h; exact h2 h; exact h4 h.1), cgetD_of hn];have h5 : bs.getD (j + 2) 0 = 0:=by simp [List.getD, e]
    rw [h5, e];exact cat_two w b off cap j c n _ ht hcap (by omega) ⟨hc0, hc1⟩ ⟨hn0, hn1⟩ (by omega) (by omega) hlc hb hcell hcell2 hone
  ·obtain ⟨m, hm⟩ : ∃ m, bs[j + 2]? = some m:=⟨_, getElem?_eq_getElem (by omega)⟩;obtain ⟨hm0, hm1, b', off', hA', _, hcell3⟩:=hB (j + 2) m hm;obtain ⟨rfl, rfl⟩ : b = b' /\ off = off':=by simpa using hA'
   rw [if_neg (by intro h; rcases h with h | h; exact h2 h; exact h3 h.2), cgetD_of hn, cgetD_of hm];exact cat_three w b off _ cap j c n m _ ht hcap (by omega) hlen ⟨hc0, hc1⟩ ⟨hn0, hn1⟩ ⟨hm0, hm1⟩ hlc hb hcell hcell2 (by simpa [Nat.add_assoc] using hcell3) hone
theorem rat_none (w : World) (A : Option Addr) (len cap : Nat) (i : Int) (hi : i < 0 \/ (len : Int) <= i) :
  Calls Tryz.prog 91 #[.slice A len cap, .int .i64 i] w (RetE (⟨0, 0, 0, 0⟩, 4) w):=by
 by_cases h0 : i < 0
 ·clear hi;go_enter Tryz.func91, Tryz.ntmps91;go_wp2;exact bodyPost_ret (results_cell_tmp Tryz.results91 _ _ w.heap.size 139 _ (0, 0) _ rfl (Blk.new w 139 _) Tryz.underlying139 rfl size25) rfl ⟨rfl, (Below.refl _ w).alloc (Nat.le_refl _) _⟩
 ·have h1 : (len : Int) <= i:=by omega
  clear hi;go_enter Tryz.func91, Tryz.ntmps91;go_wp2;exact bodyPost_ret (results_cell_tmp Tryz.results91 _ _ w.heap.size 139 _ (0, 0) _ rfl (Blk.new w 139 _) Tryz.underlying139 rfl size25) rfl ⟨rfl, (Below.refl _ w).alloc (Nat.le_refl _) _⟩
theorem rat_form (w : World) (b off len cap i : Nat) (c k : Int) (hcap : cap <= 9223372036854775807) (hlen : len <= cap) (hi : i < len) (hc : 0 <= c /\ c <= 255) (hb : b < w.heap.size)
  (hcell : w.cell? ⟨b, off + i, none⟩ = some (.int .u8 c)) (hk : longM c = k) (hk2 : (len : Int) - i < k) :
  Calls Tryz.prog 91 #[.slice (some ⟨b, off, none⟩) len cap, .int .i64 i] w (RetE (⟨0, 0, 0, 0⟩, 5) w):=by
 have HK:=hid hk;clear hk;go_enter Tryz.func91, Tryz.ntmps91;go_wp2_with fail;refine (long_any c _ hc).mono ?_;rintro e w' ⟨rfl, rfl⟩;rw [HK.out];go_wp2;exact bodyPost_ret (results_cell_tmp Tryz.results91 _ _ w.heap.size 139 _ (0, 0) _ rfl (Blk.new w 139 _) Tryz.underlying139 rfl size25) rfl ⟨rfl, (Below.refl _ w).alloc (Nat.le_refl _) _⟩
theorem rat_one (w : World) (b off len cap i : Nat) (c : Int) (hcap : cap <= 9223372036854775807) (hlen : len <= cap) (hi : i < len) (hc : 0 <= c /\ c <= 255) (hb : b < w.heap.size)
  (hcell : w.cell? ⟨b, off + i, none⟩ = some (.int .u8 c)) (hk : longM c = 1) (hl1 : (oneM c).1.l = 1) :
  Calls Tryz.prog 91 #[.slice (some ⟨b, off, none⟩) len cap, .int .i64 i] w (RetE ((oneM c).1, 0) w):=by
 have HK:=hid hk;have HL:=hid hl1;clear hk hl1;have b1:=Blk.new w 139 #[.int .i64 0, .int .i64 0, .int .i64 0, .int .i64 0];have hb1:=(Below.refl w.heap.size w).alloc (Nat.le_refl _) (.cells #[.int .i64 0, .int .i64 0, .int .i64 0, .int .i64 0] 139);go_enter Tryz.func91, Tryz.ntmps91;go_wp2_with fail;refine (long_any c _ hc).mono ?_;rintro e w' ⟨rfl, rfl⟩;rw [HK.out];go_wp2_with fail;refine (short_any c _ hc).mono ?_;rintro e w2 ⟨rfl, hb2⟩;have b2:=b1.keep hb2;have hb2':=hb1.trans (hb2.mono (by simp));have hlt:=b2.lt;have f2:=b2.frozen;have c0:=b2.cell 0;have c1:=b2.cell 1;have c2:=b2.cell 2;have c3:=b2.cell 3;simp at c0 c1 c2 c3;clear hb2 b1 hb1 hcell;go_wp2;have b3:=(b2.set4 (.int .i64 (oneM c).1.k) (.int .i64 (oneM c).1.n) (.int .i64 (oneM c).1.m) (.int .i64 1)).alloc (.cells #[.int .i64 (oneM c).1.k, .int .i64 (oneM c).1.n, .int .i64 (oneM c).1.m, .int .i64 1] 139);refine bodyPost_ret (results_cell_tmp Tryz.results91 _ _ w.heap.size 139 _ (0, 0) _ rfl b3 Tryz.underlying139 rfl size25) rfl ⟨?_, (below_set4 hb2' (Nat.le_refl _) _ _ _ _).alloc (by simp [World.setCell]; omega) _⟩;show _ = Ending.returned (.tuple #[.agg #[.int .i64 (oneM c).1.k, .int .i64 (oneM c).1.n, .int .i64 (oneM c).1.m, .int .i64 (oneM c).1.l], .int .i64 0])
 rw [HL.out];rfl
theorem Blk.far4 {w : World} {g g' : Nat} {t : TypeId} {cs : Array Value} (h : Blk w g t cs) (hne : g ≠ g') (a b c d : Value) :
  Blk ((((w.setCell ⟨g', 0, none⟩ a).setCell ⟨g', 1, none⟩ b).setCell ⟨g', 2, none⟩ c).setCell ⟨g', 3, none⟩ d) g t cs :=
 (((h.far (p:=⟨g', 0, none⟩) hne a).far (p:=⟨g', 1, none⟩) hne b).far (p:=⟨g', 2, none⟩) hne c).far (p:=⟨g', 3, none⟩) hne d
theorem rat_two (w : World) (b off len cap i : Nat) (c n : Int) (hcap : cap <= 9223372036854775807) (hlen : len <= cap) (hi : i + 2 <= len) (hc : 0 <= c /\ c <= 255) (hn : 0 <= n /\ n <= 255) (hb : b < w.heap.size) (hlc : longC c)
  (hcell : w.cell? ⟨b, off + i, none⟩ = some (.int .u8 c)) (hcell2 : w.cell? ⟨b, off + (i + 1), none⟩ = some (.int .u8 n)) (hk : longM c = 2) (hl1 : (moreM c n 0).l = 2) :
  Calls Tryz.prog 91 #[.slice (some ⟨b, off, none⟩) len cap, .int .i64 i] w (RetE ((moreM c n 0), 0) w):=by
 have HK:=hid hk;have HL:=hid hl1;clear hk hl1;have b1:=Blk.new w 139 #[.int .i64 0, .int .i64 0, .int .i64 0, .int .i64 0];have hb1:=(Below.refl w.heap.size w).alloc (Nat.le_refl _) (.cells #[.int .i64 0, .int .i64 0, .int .i64 0, .int .i64 0] 139);go_enter Tryz.func91, Tryz.ntmps91;go_wp2_with fail;refine (long_any c _ hc).mono ?_;rintro e w' ⟨rfl, rfl⟩;rw [HK.out];go_wp2_with fail;refine (short_any c _ hc).mono ?_;rintro e w2 ⟨rfl, hb2⟩;have b2:=b1.keep hb2;have hb2':=hb1.trans (hb2.mono (by simp));have hlt:=b2.lt;obtain ⟨o, ho⟩ : ∃ o : Array Value, o = #[.int .i64 (oneM c).1.k, .int .i64 (oneM c).1.n, .int .i64 (oneM c).1.m, .int .i64 0]:=⟨_, rfl⟩;have bo:=Blk.new w2 139 #[.int .i64 (oneM c).1.k, .int .i64 (oneM c).1.n, .int .i64 (oneM c).1.m, .int .i64 0];have hm2 : ∀ o1, (w2.alloc o1).cell? ⟨b, off + (i + 1), none⟩ = some (.int .u8 n):=fun o1 => ((hb2'.alloc (by omega) o1).cell (p:=⟨b, off + (i + 1), none⟩) hb).trans hcell2;clear hb2 b1 hb1 hcell ho;go_wp2_with fail;refine (cwide_any c n 0 _ hlc hn).mono ?_;rintro e w3 ⟨he, hb3⟩;have he' : e = .returned (.agg #[.int .i64 (moreM c n 0).k, .int .i64 (moreM c n 0).n, .int .i64 (moreM c n 0).m, .int .i64 0]):=he;clear he;subst he';have bo3:=bo.keep hb3;have b3:=(b2.alloc _).keep hb3;have hb3':=(hb2'.alloc (by omega) _).trans (hb3.mono (by simp; omega));have hlt3:=b3.lt;have f3:=b3.frozen;have c0:=b3.cell 0;have c1:=b3.cell 1;have c2:=b3.cell 2;have c3:=b3.cell 3;have fo3:=bo3.frozen;have d0:=bo3.cell 0;have d1:=bo3.cell 1;have d2:=bo3.cell 2;have d3:=bo3.cell 3;simp at c0 c1 c2 c3 d0 d1 d2 d3;have hlo:=bo3.lt;go_upto_region 12 with (fail);have bo4:=bo3.set4 (.int .i64 (moreM c n 0).k) (.int .i64 (moreM c n 0).n) (.int .i64 (moreM c n 0).m) (.int .i64 0);have b4:=b3.far4 (g':=w2.heap.size) (by omega) (.int .i64 (moreM c n 0).k) (.int .i64 (moreM c n 0).n) (.int .i64 (moreM c n 0).m) (.int .i64 0);have hb4:=below_set4 hb3' (g:=w2.heap.size) (by omega) (.int .i64 (moreM c n 0).k) (.int .i64 (moreM c n 0).n) (.int .i64 (moreM c n 0).m) (.int .i64 0);generalize hw4 : ((((w3.setCell ⟨w2.heap.size, 0, none⟩ (.int .i64 (moreM c n 0).k)).setCell ⟨w2.heap.size, 1, none⟩ (.int .i64 (moreM c n 0).n)).setCell ⟨w2.heap.size, 2, none⟩ (.int .i64 (moreM c n 0).m)).setCell ⟨w2.heap.size, 3, none⟩ (.int .i64 0)) = w4 at bo4 b4 hb4 ⊢;clear hw4 hb3' b3 bo3 c0 c1 c2 c3 d0 d1 d2 d3 f3 fo3 hlt3 hlo;have hlt3:=b4.lt;have f3:=b4.frozen;have c0:=b4.cell 0;have c1:=b4.cell 1;have c2:=b4.cell 2;have c3:=b4.cell 3;have fo3:=bo4.frozen;have d0:=bo4.cell 0;have d1:=bo4.cell 1;have d2:=bo4.cell 2;have d3:=bo4.cell 3;simp at c0 c1 c2 c3 d0 d1 d2 d3;have hge : w.heap.size <= w2.heap.size:=by omega
 have hne1 : ¬ (w.heap.size = w2.heap.size):=by omega
 have hne2 : ¬ (w2.heap.size = w.heap.size):=by omega
 go_wp2;have b5:=(b4.far (p:=⟨w2.heap.size, 3, none⟩) hne1 (.int .i64 2)).set4 (.int .i64 (moreM c n 0).k) (.int .i64 (moreM c n 0).n) (.int .i64 (moreM c n 0).m) (.int .i64 2);refine bodyPost_ret (results_cell_tmp Tryz.results91 _ _ w.heap.size 139 _ (0, 0) _ rfl b5 Tryz.underlying139 rfl size25) rfl ⟨?_, below_set4 (hb4.setCell (p:=⟨w2.heap.size, 3, none⟩) hge _) (Nat.le_refl _) _ _ _ _⟩;show _ = Ending.returned (.tuple #[.agg #[.int .i64 (moreM c n 0).k, .int .i64 (moreM c n 0).n, .int .i64 (moreM c n 0).m, .int .i64 (moreM c n 0).l], .int .i64 0])
 rw [HL.out];rfl
theorem rat_three (w : World) (b off len cap i : Nat) (c n m : Int) (hcap : cap <= 9223372036854775807) (hlen : len <= cap) (hi : i + 3 <= len) (hc : 0 <= c /\ c <= 255) (hn : 0 <= n /\ n <= 255) (hb : b < w.heap.size) (hlc : longC c)
  (hcell : w.cell? ⟨b, off + i, none⟩ = some (.int .u8 c)) (hcell2 : w.cell? ⟨b, off + (i + 1), none⟩ = some (.int .u8 n)) (hm : 0 <= m /\ m <= 255) (hcell3 : w.cell? ⟨b, off + (i + 2), none⟩ = some (.int .u8 m)) (hk : longM c = 3) (hl1 : (moreM c n m).l = 3) :
  Calls Tryz.prog 91 #[.slice (some ⟨b, off, none⟩) len cap, .int .i64 i] w (RetE ((moreM c n m), 0) w):=by
 have HK:=hid hk;have HL:=hid hl1;clear hk hl1;have b1:=Blk.new w 139 #[.int .i64 0, .int .i64 0, .int .i64 0, .int .i64 0];have hb1:=(Below.refl w.heap.size w).alloc (Nat.le_refl _) (.cells #[.int .i64 0, .int .i64 0, .int .i64 0, .int .i64 0] 139);go_enter Tryz.func91, Tryz.ntmps91;go_wp2_with fail;refine (long_any c _ hc).mono ?_;rintro e w' ⟨rfl, rfl⟩;rw [HK.out];go_wp2_with fail;refine (short_any c _ hc).mono ?_;rintro e w2 ⟨rfl, hb2⟩;have b2:=b1.keep hb2;have hb2':=hb1.trans (hb2.mono (by simp));have hlt:=b2.lt;obtain ⟨o, ho⟩ : ∃ o : Array Value, o = #[.int .i64 (oneM c).1.k, .int .i64 (oneM c).1.n, .int .i64 (oneM c).1.m, .int .i64 0]:=⟨_, rfl⟩;have bo:=Blk.new w2 139 #[.int .i64 (oneM c).1.k, .int .i64 (oneM c).1.n, .int .i64 (oneM c).1.m, .int .i64 0];have hm2 : ∀ o1, (w2.alloc o1).cell? ⟨b, off + (i + 1), none⟩ = some (.int .u8 n):=fun o1 => ((hb2'.alloc (by omega) o1).cell (p:=⟨b, off + (i + 1), none⟩) hb).trans hcell2;have hm3 : ∀ o1, (w2.alloc o1).cell? ⟨b, off + (i + 2), none⟩ = some (.int .u8 m):=fun o1 => ((hb2'.alloc (by omega) o1).cell (p:=⟨b, off + (i + 2), none⟩) hb).trans hcell3;clear hb2 b1 hb1 hcell ho;go_wp2_with fail;have hx2:=hm2 (.cells #[.int .i64 (oneM c).1.k, .int .i64 (oneM c).1.n, .int .i64 (oneM c).1.m, .int .i64 0] 139);have hx3:=hm3 (.cells #[.int .i64 (oneM c).1.k, .int .i64 (oneM c).1.n, .int .i64 (oneM c).1.m, .int .i64 0] 139);have bx:=b2.alloc (.cells #[.int .i64 (oneM c).1.k, .int .i64 (oneM c).1.n, .int .i64 (oneM c).1.m, .int .i64 0] 139);have hbx:=hb2'.alloc (by omega) (.cells #[.int .i64 (oneM c).1.k, .int .i64 (oneM c).1.n, .int .i64 (oneM c).1.m, .int .i64 0] 139);obtain ⟨g8, hg8⟩ : ∃ g8, g8 = w2.heap.size:=⟨_, rfl⟩;rw [<- hg8] at bo ⊢;have hg8l : w.heap.size < g8:=by omega
 generalize hwx : w2.alloc (.cells #[.int .i64 (oneM c).1.k, .int .i64 (oneM c).1.n, .int .i64 (oneM c).1.m, .int .i64 0] 139) = wx at bo hx2 hx3 bx hbx ⊢;clear hwx hm2 hm3 b2 hb2' hlt hg8;have hw1 : IntKind.i64.wrap ((i : Int) + 1) = (i : Int) + 1:=IntWalk.i64_in _ (by omega);have hw2 : IntKind.i64.wrap ((i : Int) + 2) = (i : Int) + 2:=IntWalk.i64_in _ (by omega);have hw3 : ((i : Int) + 1).toNat = i + 1:=by omega
 have hw4 : ((i : Int) + 2).toNat = i + 2:=by omega
 have hw5 : (i : Int) + 1 < (len : Int):=by omega
 have hw6 : (i : Int) + 2 < (len : Int):=by omega
 have hw7 : (0 : Int) <= (i : Int) + 1:=by omega
 have hw8 : (0 : Int) <= (i : Int) + 2:=by omega
 have hw9 : IntKind.i64.wrap n = n:=IntWalk.i64_in _ (by omega);have hw0 : IntKind.i64.wrap m = m:=IntWalk.i64_in _ (by omega);go_still_tail 13, (by kernel_rfl)
 change wpList _ _ _ _ _ wx.drew;have bo':=bo.drew;have bx':=bx.drew;have hbx':=hbx.drew;clear hw1 hw2 hw3 hw4 hw5 hw6 hw7 hw8 hw9 hw0 hx2 hx3 bo bx hbx;generalize wx.drew = wy at bo' bx' hbx' ⊢;have hgy:=bo'.lt;go_wp2_with fail;refine (cwide_any c n m _ hlc hn).mono ?_;rintro e w3 ⟨he, hb3⟩;have he' : e = .returned (.agg #[.int .i64 (moreM c n m).k, .int .i64 (moreM c n m).n, .int .i64 (moreM c n m).m, .int .i64 0]):=he;clear he;subst he';have bo3:=bo'.keep hb3;have b3:=bx'.keep hb3;have hb3':=hbx'.trans (hb3.mono (by omega));clear hb3 bo' bx' hbx';have hlt3:=b3.lt;have f3:=b3.frozen;have c0:=b3.cell 0;have c1:=b3.cell 1;have c2:=b3.cell 2;have c3:=b3.cell 3;have fo3:=bo3.frozen;have d0:=bo3.cell 0;have d1:=bo3.cell 1;have d2:=bo3.cell 2;have d3:=bo3.cell 3;simp at c0 c1 c2 c3 d0 d1 d2 d3;have hlo:=bo3.lt;go_upto_region 12 with (fail);have bo4:=bo3.set4 (.int .i64 (moreM c n m).k) (.int .i64 (moreM c n m).n) (.int .i64 (moreM c n m).m) (.int .i64 0);have b4:=b3.far4 (g':=g8) (by omega) (.int .i64 (moreM c n m).k) (.int .i64 (moreM c n m).n) (.int .i64 (moreM c n m).m) (.int .i64 0);have hb4:=below_set4 hb3' (g:=g8) (by omega) (.int .i64 (moreM c n m).k) (.int .i64 (moreM c n m).n) (.int .i64 (moreM c n m).m) (.int .i64 0);generalize hw4 : ((((w3.setCell ⟨g8, 0, none⟩ (.int .i64 (moreM c n m).k)).setCell ⟨g8, 1, none⟩ (.int .i64 (moreM c n m).n)).setCell ⟨g8, 2, none⟩ (.int .i64 (moreM c n m).m)).setCell ⟨g8, 3, none⟩ (.int .i64 0)) = w4 at bo4 b4 hb4 ⊢;clear hw4 hb3' b3 bo3 c0 c1 c2 c3 d0 d1 d2 d3 f3 fo3 hlt3 hlo;have hlt3:=b4.lt;have f3:=b4.frozen;have c0:=b4.cell 0;have c1:=b4.cell 1;have c2:=b4.cell 2;have c3:=b4.cell 3;have fo3:=bo4.frozen;have d0:=bo4.cell 0;have d1:=bo4.cell 1;have d2:=bo4.cell 2;have d3:=bo4.cell 3;simp at c0 c1 c2 c3 d0 d1 d2 d3;have hge : w.heap.size <= g8:=by omega
 have hne1 : ¬ (w.heap.size = g8):=by omega
 have hne2 : ¬ (g8 = w.heap.size):=by omega
 go_wp2;have b5:=(b4.far (p:=⟨g8, 3, none⟩) hne1 (.int .i64 3)).set4 (.int .i64 (moreM c n m).k) (.int .i64 (moreM c n m).n) (.int .i64 (moreM c n m).m) (.int .i64 3);refine bodyPost_ret (results_cell_tmp Tryz.results91 _ _ w.heap.size 139 _ (0, 0) _ rfl b5 Tryz.underlying139 rfl size25) rfl ⟨?_, below_set4 (hb4.setCell (p:=⟨g8, 3, none⟩) hge _) (Nat.le_refl _) _ _ _ _⟩;show _ = Ending.returned (.tuple #[.agg #[.int .i64 (moreM c n m).k, .int .i64 (moreM c n m).n, .int .i64 (moreM c n m).m, .int .i64 (moreM c n m).l], .int .i64 0])
 rw [HL.out];rfl
theorem oneM_l (c : Int) (h : 0 <= c /\ c <= 255) : (oneM c).1.l = 1:=by
 have key : ∀ n : Nat, n < 256 -> (oneM n).1.l = 1:=by decide +kernel
 have:=key c.toNat (by omega)
 rwa [show ((c.toNat : Nat) : Int) = c from by omega] at this
theorem longM_one (c : Int) (h : ¬ longC c) : longM c = 1:=by unfold longC at h;unfold longM;rw [if_neg (by omega), if_neg (by omega)]
theorem longM_two (c : Int) (h : longC c) (h1 : ¬ (c = 132 \/ c = 134)) : longM c = 2:=by unfold longC at h;unfold longM;rw [if_neg h1, if_pos (by omega)]
theorem longM_three (c : Int) (h1 : c = 132 \/ c = 134) : longM c = 3:=by unfold longM;rw [if_pos h1]
theorem moreM_l2 (c n m : Int) (h1 : ¬ (c = 132 \/ c = 134)) : (moreM c n m).l = 2:=by
 unfold moreM
 repeat' split
 all_goals first | rfl | (exfalso; omega)
theorem moreM_l3 (c n m : Int) (h1 : c = 132 \/ c = 134) : (moreM c n m).l = 3:=by rcases h1 with rfl | rfl <;> simp [moreM]
theorem moreM_m (c n m m' : Int) (h1 : ¬ (c = 132 \/ c = 134)) : moreM c n m = moreM c n m':=by
 unfold moreM
 repeat' split
 all_goals first | rfl | (exfalso; omega)
theorem rat_any (w : World) (A : Option Addr) (bs : List Int) (cap : Nat) (i : Int) (hcap : cap <= 9223372036854775807) (hlen : bs.length <= cap) (hB : Byts w A bs) :
  Calls Tryz.prog 91 #[.slice A bs.length cap, .int .i64 i] w (RetE (atM bs i) w):=by
 by_cases h0 : i < 0
 ·rw [atM, if_pos h0];exact rat_none w A _ cap i (Or.inl h0)
 obtain ⟨j, rfl⟩ : ∃ j : Nat, i = j:=⟨i.toNat, by omega⟩;rw [atM, if_neg h0, Int.toNat_natCast];by_cases h1 : bs.length <= j
 ·rw [atN, if_pos h1];exact rat_none w A _ cap j (Or.inr (by omega))
 obtain ⟨c, hc⟩ : ∃ c, bs[j]? = some c:=⟨_, getElem?_eq_getElem (by omega)⟩;obtain ⟨hc0, hc1, b, off, rfl, hb, hcell⟩:=hB j c hc;rw [atN, if_neg h1, cgetD_of hc];cases ho : (oneM c).2 with
 | true =>
  rw [if_pos rfl];have hnl : ¬ longC c:=fun h => by rw [(oneM_long c ⟨hc0, hc1⟩).2 h] at ho; cases ho
  exact rat_one w b off _ cap j c hcap hlen (by omega) ⟨hc0, hc1⟩ hb hcell (longM_one c hnl) (oneM_l c ⟨hc0, hc1⟩)
 | false =>
  rw [if_neg (by simp)];have hlc:=(oneM_long c ⟨hc0, hc1⟩).1 ho;by_cases h4 : c = 132 \/ c = 134
  ·by_cases h3 : bs.length < j + 3
   ·rw [if_pos (Or.inr ⟨h4, h3⟩)];exact rat_form w b off _ cap j c 3 hcap hlen (by omega) ⟨hc0, hc1⟩ hb hcell (longM_three c h4) (by omega)
   ·obtain ⟨n, hn⟩ : ∃ n, bs[j + 1]? = some n:=⟨_, getElem?_eq_getElem (by omega)⟩;obtain ⟨hn0, hn1, b', off', hA', _, hcell2⟩:=hB (j + 1) n hn;obtain ⟨rfl, rfl⟩ : b = b' /\ off = off':=by simpa using hA'
    obtain ⟨m, hm⟩ : ∃ m, bs[j + 2]? = some m:=⟨_, getElem?_eq_getElem (by omega)⟩;obtain ⟨hm0, hm1, b', off', hA', _, hcell3⟩:=hB (j + 2) m hm;obtain ⟨rfl, rfl⟩ : b = b' /\ off = off':=by simpa using hA'
    rw [if_neg (by omega), cgetD_of hn, cgetD_of hm];exact rat_three w b off _ cap j c n m hcap hlen (by omega) ⟨hc0, hc1⟩ ⟨hn0, hn1⟩ hb hlc hcell hcell2 ⟨hm0, hm1⟩ hcell3 (longM_three c h4) (moreM_l3 c n m h4)
  ·by_cases h2 : bs.length < j + 2
   ·rw [if_pos (Or.inl h2)];exact rat_form w b off _ cap j c 2 hcap hlen (by omega) ⟨hc0, hc1⟩ hb hcell (longM_two c hlc h4) (by omega)
   ·obtain ⟨n, hn⟩ : ∃ n, bs[j + 1]? = some n:=⟨_, getElem?_eq_getElem (by omega)⟩;obtain ⟨hn0, hn1, b', off', hA', _, hcell2⟩:=hB (j + 1) n hn;obtain ⟨rfl, rfl⟩ : b = b' /\ off = off':=by simpa using hA'
    rw [if_neg (by intro h; rcases h with h | h; exact h2 h; exact h4 h.1), cgetD_of hn, moreM_m c n _ 0 h4];exact rat_two w b off _ cap j c n hcap hlen (by omega) ⟨hc0, hc1⟩ ⟨hn0, hn1⟩ hb hlc hcell hcell2 (longM_two c hlc h4) (moreM_l2 c n 0 h4)
theorem atN_len (bs : List Int) (hb : ∀ v ∈ bs, 0 <= v /\ v <= 255) (i : Nat) (h : (atN bs i).2 = 0) : 1 <= (atN bs i).1.l /\ (atN bs i).1.l <= 3 /\ (i : Int) + (atN bs i).1.l <= bs.length:=by
 unfold atN at h ⊢;by_cases h1 : bs.length <= i
 ·rw [if_pos h1] at h; simp at h
 rw [if_neg h1] at h ⊢;have hi : bs[i]? = some (bs.getD i 0):=by rw [getElem?_eq_getElem (by omega), getD_eq_getElem?_getD, getElem?_eq_getElem (by omega)]; rfl
 have hc:=hb _ (mem_of_getElem? hi);by_cases h2 : (oneM (bs.getD i 0)).2 = true
 ·rw [if_pos h2] at h ⊢;have:=oneM_l _ hc;simp only;omega
 rw [if_neg h2] at h ⊢;by_cases h3 : bs.length < i + 2 \/ ((bs.getD i 0 = 132 \/ bs.getD i 0 = 134) /\ bs.length < i + 3)
 ·rw [if_pos h3] at h; simp at h
 rw [if_neg h3];simp only;by_cases h4 : bs.getD i 0 = 132 \/ bs.getD i 0 = 134
 ·rw [moreM_l3 _ _ _ h4]; omega
 ·rw [moreM_l2 _ _ _ h4]; omega
end Go.Proofs.YtgaemfghpibeeaaGreatDoor
