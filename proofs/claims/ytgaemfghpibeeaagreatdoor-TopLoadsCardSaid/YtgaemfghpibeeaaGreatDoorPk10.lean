/-
  An object of a paged memory is fetched, read, and a word or byte of it is set. Conditions: each theorem names its own.
-/
import Derived.Test.YtgaemfghpibeeaaGreatDoorPk09
import Derived.Defers
import Derived.Laws.Bits64b
import Derived.Laws.CopyRow
set_option maxRecDepth 100000
set_option maxHeartbeats 6000000
open Go.Lib (hid)
open List (getElem?_eq_getElem mem_of_getElem? getElem?_append_left getElem?_append_right getD_eq_getElem?_getD eq_nil_of_length_eq_zero getElem?_eq_none_iff length_replicate take_of_length_le length_set length_append)
namespace Go.Proofs.YtgaemfghpibeeaaGreatDoor
open Go.RowKit
theorem Step.of {p : LmP} {S S' : St} {w w' : World} (hs : ∀ k, p.set S'.sl k -> p.set S.sl k) (ho : Only (p.set S.sl) w w') : Step p S w p S' w':=⟨rfl, fun k hk => .inl (hs k hk), ho⟩
def NeedPost (p : LmP) (N NW NS : Nat) (S : St) (Vt : List Ob) (i : Nat) (w : World) (e : Ending) (w' : World) : Prop :=
 (e = .returned (.tuple #[.pointer none, .int .i64 3]) /\ ∃ (H : HpP) (S' : St), Step p S w { p with H:=H } S' w' /\ LmMem w' { p with H:=H } N NW NS S' /\ Inv NS S' Vt [] (fun _ => False) (fun _ => False) /\ S'.busy = 0) \/
 ∃ (s : Nat) (x : Slt) (r : Res) (H : HpP) (S' : St), e = .returned (.tuple #[.pointer (some ⟨p.sb, s * 3, none⟩), .int .i64 0]) /\ Step p S w { p with H:=H } S' w' /\ LmMem w' { p with H:=H } N NW NS S' /\ Inv NS S' Vt [] (fun _ => False) (fun _ => False) /\ S'.busy = 0 /\ S'.sl[s]? = some x /\ x.res = some r /\ x.id = (i : Int) + 1
theorem calm_down (p : LmP) (N NW NS : Nat) (S : St) (g : Nat) (u : FrameMode) (w : World) (h : LmMem w p N NW NS S) (hg : w.cell? ⟨g, 0, none⟩ = some (.pointer (some ⟨p.m, 0, none⟩))) :
  CallsD Tryz.prog 206 #[.pointer (some ⟨g, 0, none⟩)] u w fun e u' w' => u' = u /\ e = .returned (.tuple #[]) /\ w' = w.setCell ⟨p.m, 5, none⟩ (.int .i64 0):=by
 obtain ⟨-, -, -, -, -, m5⟩:=h.look2;have f5:=h.head.frozen 5;clear h;go_enter_d Tryz.func206, Tryz.ntmps206;go_wp2;go_end0
 exact ⟨rfl, rfl⟩
theorem set_here {sl : List Slt} {s : Nat} {x : Slt} {r : Res} (hx : sl[s]? = some x) (p : LmP) : ∀ k, p.set (sl.set s { x with res:=some r }) k -> p.set sl k \/ k = r.a:=by
 rintro k ⟨i, hi⟩
 match i, hi with
 | 0, hi => exact .inl ⟨0, hi⟩
 | 1, hi => exact .inl ⟨1, hi⟩
 | 2, hi => exact .inl ⟨2, hi⟩
 | 3, hi => exact .inl ⟨3, hi⟩
 | 4, hi => exact .inl ⟨4, hi⟩
 | 5, hi => exact .inl ⟨5, hi⟩
 | s2 + 6, hi =>
  obtain ⟨r2, h2, e⟩:=hi;rw [resOf_set _ _ _ (List.getElem?_eq_some_iff.1 hx).1] at h2;by_cases e2 : s2 = s
  ·rw [if_pos e2] at h2;cases h2
   exact .inr e
  ·rw [if_neg e2] at h2;exact .inl ⟨s2 + 6, r2, h2, e⟩
theorem keep_cell {S : Nat -> Prop} {w w' : World} (ho : Only S w w') {a : Addr} {v : Value} (h : w.cell? a = some v) (h0 : a.block < w.heap.size) (h1 : ¬ S a.block) : w'.cell? a = some v:=(ho.cell h0 h1).trans h
theorem touch_one (w : World) (c lb h tb s : Nat) (L : List Ck.Pl) (pl : Ck.Pl) (k : Ck.Clk w c lb L h) (ht : Blk w tb 3 #[.int .i64 (s : Int)]) (hs : L[s]? = some pl) (hi : pl.i = true) :
  Calls Tryz.prog 194 #[.pointer (some ⟨c, 0, none⟩), .slice (some ⟨tb, 0, none⟩) 1 1] w (Ck.Ret (.int .i64 0) c lb (L.set s { pl with t:=true }) h w):=by
 have h1:=Ck.touch_ok w c lb h tb L [s] k ht (by simp) (by intro i hi2; rw [List.mem_singleton.1 hi2]; exact ⟨pl, hs, hi⟩);have e : Ck.touchL L [s] = L.set s { pl with t:=true }:=by unfold Ck.touchL;rw [hs];rfl
 rw [e] at h1;exact h1
theorem putW_all (l : List Int) (n : Nat) (h : l.length = n) : putW (List.replicate n 0) 0 l = l:=by unfold putW;rw [List.take_zero, List.nil_append, Nat.zero_add, h, List.drop_eq_nil_of_le (by simp), List.append_nil]
theorem LmMem.slotf {w : World} {p : LmP} {N NW NS : Nat} {S : St} (h : LmMem w p N NW NS S) (i : Nat) : w.frozen? ⟨p.sb, i, none⟩ = false:=h.slots.frozen i
theorem fault_any (p : LmP) (N NW NS i : Nat) (S : St) (Vt : List Ob) (v : Ob) (w : World) (h : LmMem w p N NW NS S) (hI : Inv NS S Vt [] (fun _ => False) (fun _ => False)) (hbusy : S.busy = 0) (hv : Vt[i]? = some v) (haw : Away S ((i : Int) + 1)) (hsm : i < 1073741823) :
  Calls Tryz.prog 195 #[.pointer (some ⟨p.m, 0, none⟩), .int .i64 ((i : Int) + 1)] w (NeedPost p N NW NS S Vt i w):=by
 have hmf : ∀ (fn : Fn) (first cap : Array Value) (w : World), (Instr.makeFunc fn first cap).run Tryz.prog w = .ok (.func fn first cap) w:=fun _ _ _ _ => rfl
 have hb0:=(Below.refl w.heap.size w).alloc (Nat.le_refl _) (.cells #[.pointer (some ⟨p.m, 0, none⟩)] 31);have M0:=h.below hb0;have st0 : Step p S w p S (w.alloc (.cells #[.pointer (some ⟨p.m, 0, none⟩)] 31)):=Step.of (fun _ h => h) ((Only.refl _ w).alloc _);have B0:=Blk.new w 31 #[.pointer (some ⟨p.m, 0, none⟩)];have hlow:=h.lt;have hbd:=bind_any false p N NW NS S Vt [] (fun _ => False) (fun _ => False) ((i : Int) + 1) _ M0 hI (by simp) (by omega);have HBD:=hid hbd;have HM0:=hid M0;have ST0:=hid st0;have HB0:=hid B0;have HLOW:=hid hlow;have HI:=hid hI;have HAW:=hid haw;have HV:=hid hv;have HBUSY:=hid hbusy;clear hbd M0 st0 B0 hlow hI haw hv h hb0 hbusy;go_enter_defers Tryz.func195, Tryz.ntmps195;go_wp2_with fail;refine HBD.out.mono ?_;rintro e w1 (⟨rfl, S1, M1, I1, F1, C1, O1, -⟩ | ⟨s, S1, S2, rfl, s1, s2, M2, I2, F1, C1, -, nm, O2⟩)
 ·have e1 : NeedPost p N NW NS S Vt i w (.returned (.tuple #[.pointer none, .int .i64 3])) w1 :=
   .inl ⟨rfl, p.H, S1, ST0.out.trans (Step.of_fell F1 O1), M1, I1, F1.busy.trans HBUSY.out⟩
  have HE:=hid e1;clear e1 M1 I1 F1 C1 O1;go_wp2_with fail;refine ⟨_, results_tmp2 rfl _ _ _, ?_⟩;exact HE.out
 ·have B1:=HB0.out.only O2 (fun h => by have:=HLOW.out _ h; omega);obtain ⟨x1, hx1, hsl, hfree⟩:=nm.at_;have st2 : Step p S (w.alloc (.cells #[.pointer (some ⟨p.m, 0, none⟩)] 31)) p S2 w1:=Step.of (fun k hk => F1.set p k (nm.set p k hk)) O2;have hb2 : S2.busy = 0:=nm.busy.trans (F1.busy.trans HBUSY.out);have I3:=I2.toBusy s s2 (fun _ => False) (fun k hk hne => hk.elim (fun h => h) (fun h => hne h)) (fun h => absurd hb2 h);have M3:=M2.toBusy s;have st3 : Step p S (w.alloc (.cells #[.pointer (some ⟨p.m, 0, none⟩)] 31)) p { S2 with busy:=s } (w1.setCell ⟨p.m, 5, none⟩ (.int .i64 (s : Int))):=st2.trans (Step.of (fun k hk => hk) ((Only.refl _ w1).setCell (p:=⟨p.m, 5, none⟩) (.inl ⟨0, rfl⟩) _));have aw1 : Away S1 ((i : Int) + 1):=F1.away (by omega) HAW.out;have hr1 : x1.res = none:=by
   rcases hfree with e | e
   ·exact aw1 s x1 hx1 e
   ·exact e.2.1
  have hx2 : S2.sl[s]? = some { x1 with id:=(i : Int) + 1 }:=by rw [hsl]; exact List.getElem?_set_self (List.getElem?_eq_some_iff.1 hx1).1
  have aw3 : Away { S2 with busy:=s } ((i : Int) + 1):=by
   intro s' z hz hzi;have hz2 : S2.sl[s']? = some z:=hz;rw [hsl] at hz2;rcases slt_set hz2 with ⟨rfl, rfl⟩ | ⟨_, hz0⟩
   ·exact hr1
   ·exact aw1 s' z hz0 hzi
  obtain ⟨S3, hS3⟩ : ∃ S3, S3 = { S2 with busy:=s }:=⟨_, rfl⟩;obtain ⟨x3, hx3⟩ : ∃ x3 : Slt, x3 = { x1 with id:=(i : Int) + 1 }:=⟨_, rfl⟩;have xs3 : S3.sl[s]? = some x3:=by rw [hS3, hx3]; exact hx2
  have xr3 : x3.res = none:=by rw [hx3]; exact hr1
  have xi3 : x3.id = (i : Int) + 1:=by rw [hx3]
  have b3 : S3.busy = s:=by rw [hS3]
  rw [<- hS3] at I3 M3 st3 aw3;obtain ⟨-, -, -, -, -, m5⟩:=M2.look2;have f5:=M2.head.frozen 5;have hBx:=B1.cell 0;simp only [qTa, qTb] at hBx;have hne : p.m ≠ w.heap.size:=by have:=HLOW.out p.m ⟨0, rfl⟩; omega
  have BX:=hid (B1.far (p:=⟨p.m, 5, none⟩) (Ne.symm hne) (.int .i64 (s : Int)));have HM3:=hid M3;have HI3:=hid I3;have ST3:=hid st3;have AW3:=hid aw3;have XS3:=hid xs3;have XR3:=hid xr3;have XI3:=hid xi3;have HB3:=hid b3;clear I3 M3 st3 aw3 xs3 xr3 xi3 b3 hS3 hx3 hx2 hr1 aw1 hb2 st2 hsl hfree hx1 B1 M2 I2 F1 C1 nm O2 HBD HM0 HB0 HI HAW HBUSY;go_upto_region 6 with (fail);generalize w1.setCell ⟨p.m, 5, none⟩ (.int .i64 (s : Int)) = W at BX HM3 ST3 ⊢;clear m5 f5 hBx hmf;have hil : i < S3.D.length:=by rw [<- HI3.out.lenV]; exact (List.getElem?_eq_some_iff.1 HV.out).1
  have hD3 : S3.D[i]? = some v:=by have h1:=HI3.out.awayV (getElem?_eq_getElem hil) AW3.out;rw [HV.out] at h1;rw [getElem?_eq_getElem hil];exact h1.symm
  have hok:=HM3.out.disk.ok v (mem_of_getElem? hD3);have hbv:=HM3.out.disk.vals hD3;have hft:=fetch_ok p.Q N S3.D i v W HM3.out.disk hD3;obtain ⟨m0, -, -, -, -, -⟩:=HM3.out.look2;have hBx:=BX.out.cell 0;simp only [qTa, qTb] at hBx;have HFT:=hid hft;have HOK:=hid hok;have HBV:=hid hbv;have HD3:=hid hD3;clear hft hok hbv hD3 hil;go_wp2_with fail;refine HFT.out.mono ?_;rintro e w4 ⟨y, rfl, hF, hS, hO⟩;obtain ⟨A, ca, B, cb, rfl, hR, -, -, -, -⟩:=hF.parts HOK.out HBV.out;obtain ⟨n1, hn1⟩ : ∃ n, n = v.ws.length:=⟨_, rfl⟩;obtain ⟨n2, hn2⟩ : ∃ n, n = v.bs.length:=⟨_, rfl⟩;have M4:=HM3.out.taken hS hO;have hset : ∀ k, k = p.Q.P.d -> p.set S3.sl k:=fun k e => by subst e; exact ⟨1, .inr (.inr (.inr (.inl rfl)))⟩
  have st4:=ST3.out.trans (Step.of (fun k hk => hk) (hO.mono hset));have hpg : ∀ k, p.set S3.sl k -> k ≠ w.heap.size:=fun k hk e => by
   rcases ST3.out.sub k hk with h1 | h1
   ·have:=HLOW.out k h1; omega
   ·rw [World.size_alloc] at h1; omega
  have bx4:=BX.out.only hO (fun e => hpg _ (hset _ e) rfl);have hal:=(Below.refl w4.heap.size w4).alloc (Nat.le_refl _) (.cells (obV v A ca B cb) 29);have M5:=M4.below hal;have HLOW4:=hid M4.lt;have st5:=st4.trans (Step.of (fun k hk => hk) (only_of hal _));have bx5:=bx4.keep hal;have bo5:=Blk.new w4 29 (obV v A ca B cb);have hna:=nar_any v A ca B cb _ (hR.alloc (.cells (obV v A ca B cb) 29)) HOK.out;unfold obV at hna bo5 M5 st5 bx5 ⊢;rw [<- hn1, <- hn2] at hna bo5 M5 st5 bx5 ⊢;have HN1:=hid hn1;have HN2:=hid hn2;clear hn1 hn2;have HNA:=hid hna;have HM5:=hid M5;have ST5:=hid st5;have BX5:=hid bx5;have BO5:=hid bo5;have HPG:=hid hpg;clear hna M5 st5 bx5 bo5 hal M4 st4 bx4 hR hF hS hO hset hpg HM3 ST3 BX HFT m0 hBx;have hBx:=BX5.out.cell 0;simp only [qTa, qTb] at hBx;go_wp2_with fail;refine HNA.out.mono ?_;rintro e w5 ⟨sv, rfl, hsv, hb5⟩;have hnv:=narM_vals (o:=v) HBV.out;obtain ⟨A', cap', rfl, hlc, hcp, -, -⟩:=hsv.reads (fun x hx => by have:=hnv x hx; omega);have hnl : (narM v).length <= 1000:=by
   have h1:=narM_length HOK.out;obtain ⟨_, h2⟩:=checkM_parts HOK.out;rw [h1, lenW, sizeM];rcases h2 with ⟨a1, a2, a3, _⟩ | ⟨a1, a2, a3⟩
   ·simp [a1, a3]
   ·simp [a1]; omega
  obtain ⟨n, hn⟩ : ∃ n, n = (narM v).length:=⟨_, rfl⟩;rw [<- hn] at hlc hnl hsv ⊢;have M6:=HM5.out.below hb5;have st6:=ST5.out.trans (Step.of (fun k hk => hk) (only_of hb5 _));have bx6:=BX5.out.keep hb5;have bo6:=BO5.out.keep hb5;have hbl:=block_any p N NW NS S3 Vt [] (fun _ => False) n w5 M6 HI3.out (by simp) (by omega);have HBL:=hid hbl;have HM6:=hid M6;have ST6:=hid st6;have BX6:=hid bx6;have BO6:=hid bo6;have HSV:=hid hsv;have HNV:=hid hnv;have HN:=hid hn;have hsz5:=hb5.size;rw [World.size_alloc] at hsz5;clear hbl M6 st6 bx6 bo6 hsv hnv hn hb5 HM5 ST5 BX5 BO5 HNA hBx;have hBx:=BX6.out.cell 0;simp only [qTa, qTb] at hBx;go_wp2_with fail;refine HBL.out.mono ?_;rintro e w6 (⟨rfl, S6, M7, I7, F7, O7⟩ | ⟨b, H, S6, rfl, st7, M7, I7, hVb, F7⟩)
  ·have b7 : S6.busy = s:=F7.busy.trans HB3.out;have I8:=I7.toBusy 0 (by omega) (fun k => False \/ k = s) (fun k h _ => h.elim) (fun _ _ => .inr b7);have M8 : LmMem (w6.setCell ⟨p.m, 5, none⟩ (.int .i64 0)) p N NW NS { S6 with busy:=0 }:=M7.toBusy 0;obtain ⟨x6, hx6⟩ : ∃ x, S6.sl[s]? = some x:=⟨_, getElem?_eq_getElem (by rw [M7.lenS]; omega)⟩;have hi6 : x6.id = (i : Int) + 1:=by
    obtain ⟨x, hx, h1, _⟩:=F7.slot s x6 hx6;rw [XS3.out] at hx;cases hx
    rcases h1 with h1 | ⟨_, h1⟩
    ·exact h1.trans XI3.out
    ·exact absurd HB3.out.symm h1
   have st8:=ST6.out.trans ((Step.of_fell F7 O7).trans (Step.of (S':={ S6 with busy:=0 }) (fun k hk => hk) ((Only.refl _ w6).setCell (p:=⟨p.m, 5, none⟩) (.inl ⟨0, rfl⟩) (.int .i64 0))));have bx8:=(BX6.out.only O7 (fun e => HPG.out _ e rfl)).far (p:=⟨p.m, 5, none⟩) (Ne.symm hne) (.int .i64 0);have hls:=loose_any p N NW NS s { S6 with busy:=0 } Vt [] (fun _ => False) (fun _ => False) x6 _ M8 I8 s1 hx6 (by rw [hi6]; omega);have hpl : ∀ k, p.set S6.sl k -> k ≠ w.heap.size:=fun k hk => HPG.out k (F7.set p k hk);have HLS:=hid hls;have ST8:=hid st8;have BX8:=hid bx8;have HPL:=hid hpl;have bx7:=BX6.out.only O7 (fun e => HPG.out _ e rfl);have hBx:=bx7.cell 0;simp only [qTa, qTb] at hBx;obtain ⟨-, -, -, -, -, m5⟩:=M7.look2;have f5:=M7.head.frozen 5;clear hls st8 bx8 hpl bx7 hi6 hx6 M8 I8 b7 M7 I7 F7 O7 HBL BX6 BO6 HSV HNV HN HLOW4 HM6 ST6 HI3 HB3 XS3 XR3 XI3 AW3 HD3 HBV HOK HPG hsz5 HN1 HN2;go_upto_region 11 with (fail);generalize w6.setCell ⟨p.m, 5, none⟩ (.int .i64 0) = W6 at HLS BX8 ST8 ⊢;clear hBx m5 f5;have hBx:=BX8.out.cell 0;simp only [qTa, qTb] at hBx;go_wp2_with fail;refine HLS.out.mono ?_;rintro e w9 ⟨rfl, S9, M9, I9, C9, O9⟩;have b9 : S9.busy = 0:=C9.busy;have bx9:=BX8.out.only O9 (fun e => HPL.out _ e rfl);have I10:=I9.toBusy 0 (by omega) (fun _ => False) (fun k h _ => h) (fun h => absurd b9 h);have M10 : LmMem (w9.setCell ⟨p.m, 5, none⟩ (.int .i64 0)) p N NW NS { S9 with busy:=0 }:=M9.toBusy 0;have st10:=ST0.out.trans (ST8.out.trans ((Step.of (fun k hk => C9.set p k hk) O9).trans (Step.of (S':={ S9 with busy:=0 }) (fun k hk => hk) ((Only.refl _ w9).setCell (p:=⟨p.m, 5, none⟩) (.inl ⟨0, rfl⟩) (.int .i64 0)))));have e10 : NeedPost p N NW NS S Vt i w (.returned (.tuple #[.pointer none, .int .i64 3])) (w9.setCell ⟨p.m, 5, none⟩ (.int .i64 0)) :=
    .inl ⟨rfl, p.H, _, st10, M10, I10, rfl⟩
   have hcd:=calm_down p N NW NS S9 w.heap.size .returning w9 M9 (by have:=bx9.cell 0; simpa using this);have HE:=hid e10;have HCD:=hid hcd;clear e10 hcd st10 M10 I10 bx9 b9 M9 I9 C9 O9 HLS BX8 ST8 HPL ST0 hBx;go_wp2_with fail;refine leaves_cons (f:=206) (args:=#[.pointer (some ⟨w.heap.size, 0, none⟩)]) (by simp) (by simp [go_sem]) ?_;refine HCD.out.mono ?_;rintro e u' w'' ⟨rfl, rfl, rfl⟩;refine ⟨_, results_tmp2 rfl _ _ _, ?_⟩;exact HE.out
  ·have hp7 : ∀ k, p.set S3.sl k -> k < w4.heap.size:=HLOW4.out;have hq7 : ∀ k, ({ p with H:=H } : LmP).set S6.sl k -> k < w4.heap.size \/ w5.heap.size <= k:=fun k hk => by
    rcases st7.sub k hk with h1 | h1
    ·exact .inl (hp7 k h1)
    ·exact .inr h1
   have hq8 : ∀ k, ({ p with H:=H } : LmP).set S6.sl k -> k ≠ w.heap.size:=fun k hk e => by
    rcases st7.sub k hk with h1 | h1
    ·exact HPG.out k h1 e
    ·have:=BX6.out.lt; omega
   have bx7:=BX6.out.only st7.only (fun e => HPG.out _ e rfl);have bo7:=BO6.out.only st7.only (fun e => by have:=hp7 _ e; omega);have hc5 : (w4.alloc (.cells #[.int .i64 v.cls, .int .i64 v.kind, .slice A n1 ca, .slice B n2 cb] 29)).heap.size = w4.heap.size + 1:=by simp
   have sv7:=HSV.out.only st7.only (fun g e => by have:=hp7 _ e; omega);obtain ⟨A2, cap2, esv, _, _, hI7, _⟩:=sv7.reads (fun x hx => by have:=HNV.out x hx; omega);injection esv with e1 e2 e3;clear e2 e3;subst e1;have hAP : ∀ b off, A' = some ⟨b, off, none⟩ -> ¬ H.set b:=fun b off e hs => by obtain ⟨g, e2, hg1, hg2⟩:=HSV.out.blk e;injection e2 with e2 _;have:=hq7 b ⟨2, hs⟩;omega
   have hwr : Calls Tryz.prog 174 #[.pointer (some ⟨H.h, 0, none⟩), .int .i64 b, .int .i64 0, .slice A' n cap'] w6 fun e w' => e = .returned (.int .i64 0) /\ HeapV w' H NW S6.hc (updV S6.V b (some (narM v))) S6.t /\ Only H.set w6 w':=by have h1:=heapWrite_any H NW S6.hc S6.V S6.t b 0 (List.replicate n 0) (narM v) A' cap' w6 M7.heap hVb (by have:=HN.out; simp; omega) hI7 hAP HNV.out;rw [<- HN.out, putW_all _ _ HN.out.symm] at h1;exact h1
   have i8 : Inv NS { S6 with V:=updV S6.V b (some (narM v)) } Vt [] (fun _ => False) (fun j => False \/ j = b):=by
    have h1:=I7.alloc b (narM v) (fun s r hr e => I7.nopend s r hr e) S6.hc S6.t I7.count;have e : (fun j => j = b \/ j = b) = (fun j => False \/ j = b):=by funext j; simp
    rw [e] at h1;exact h1
   obtain ⟨x6, hx6⟩ : ∃ x, S6.sl[s]? = some x:=⟨_, getElem?_eq_getElem (by rw [M7.lenS]; omega)⟩;have b7 : S6.busy = s:=F7.busy.trans HB3.out;have hi6 : x6.id = (i : Int) + 1 /\ x6.res = none:=by
    obtain ⟨x, hx, h1, h2⟩:=F7.slot s x6 hx6;rw [XS3.out] at hx;cases hx
    refine ⟨?_, h2.elim id (fun h => h.trans XR3.out)⟩;rcases h1 with h1 | ⟨_, h1⟩
    ·exact h1.trans XI3.out
    ·exact absurd HB3.out.symm h1
   have aw6 : Away S6 ((i : Int) + 1):=F7.away (by omega) AW3.out;obtain ⟨-, m1, -, -, -, -⟩:=M7.look2;have hBx:=bx7.cell 0;simp only [qTa, qTb] at hBx;have HWR:=hid hwr;have HI8:=hid i8;have HX6:=hid hx6;have HI6:=hid hi6;have AW6:=hid aw6;have HM7:=hid M7;have ST7:=hid (ST6.out.trans st7);have BX7:=hid bx7;have BO7:=hid bo7;have HQ7:=hid hq7;have HQ8:=hid hq8;have HB7:=hid b7;have w56:=st7.only.size;clear hwr i8 hx6 hi6 aw6 M7 st7 bx7 bo7 hq7 hq8 b7 hp7 hc5 sv7 hI7 hAP I7 hVb F7 HBL BX6 BO6 HSV HM6 ST6 HI3 HB3 XS3 XR3 XI3 AW3 HPG HLOW4;go_wp2_with fail;refine HWR.out.mono ?_;rintro e w7 ⟨rfl, hH, hO⟩;have hset : ∀ k, H.set k -> ({ p with H:=H } : LmP).set S6.sl k:=fun k hk => ⟨2, hk⟩;obtain ⟨P, hP⟩ : ∃ P : LmP, P = { p with H:=H }:=⟨_, rfl⟩;obtain ⟨S8, hS8⟩ : ∃ S8 : St, S8 = { S6 with V:=updV S6.V b (some (narM v)) }:=⟨_, rfl⟩;have M8 : LmMem w7 P N NW NS S8:=by rw [hP, hS8];exact HM7.out.toHeap hO H S6.hc (updV S6.V b (some (narM v))) S6.t hH rfl (fun _ h => .inl h)
   have hsl8 : S8.sl = S6.sl:=by rw [hS8]
   have hV8 : S8.V b = some (narM v):=by rw [hS8]; simp [updV]
   have hpsb : P.sb = p.sb:=by rw [hP]
   have hpm : P.m = p.m:=by rw [hP]
   have hpc : P.c = p.c /\ P.lb = p.lb:=by rw [hP]; exact ⟨rfl, rfl⟩
   have st8 : Step p S (w.alloc (.cells #[.pointer (some ⟨p.m, 0, none⟩)] 31)) P S8 w7:=by have h1:=ST7.out.trans (Step.of (S':=S8) (fun k hk => by rw [hsl8] at hk; exact hk) (hO.mono hset));rw [<- hP] at h1;exact h1
   have bx8:=BX7.out.only hO (fun e => HQ8.out _ (hset _ e) rfl);have bo8:=BO7.out.only hO (fun e => by have:=HQ7.out _ (hset _ e); have:=BO7.out.lt; omega);have hq8 : ∀ k, P.set S8.sl k -> k ≠ w.heap.size:=by rw [hsl8, hP]; exact HQ8.out
   have b8 : S8.busy = s:=by rw [hS8]; exact HB7.out
   have i8:=HI8.out;rw [<- hS8] at i8;have hx8 : S8.sl[s]? = some x6:=by rw [hsl8]; exact HX6.out
   have aw8 : Away S8 ((i : Int) + 1):=fun s' z hz => AW6.out s' z (by rw [<- hsl8]; exact hz);have HM8:=hid M8;have HHV8:=hid hV8;have ST8:=hid st8;have BX8:=hid bx8;have BO8:=hid bo8;have HQ9:=hid hq8;have HB8:=hid b8;have HI9:=hid i8;have HX8:=hid hx8;have AW8:=hid aw8;have HPP:=hid hP;have q3 : w4.heap.size ≠ p.sb:=fun e => by have:=HQ7.out p.sb ⟨5, rfl⟩; omega
   have q1 : w.heap.size ≠ p.sb:=fun e => HQ8.out p.sb ⟨5, rfl⟩ e.symm;have q2 : p.m ≠ p.sb:=fun e => by have h1:=HM7.out.apart 0 5 p.m rfl e;omega
   clear M8 hV8 st8 bx8 bo8 hq8 b8 i8 hx8 aw8 hS8 hsl8 HM7 ST7 BX7 BO7 HQ7 HQ8 HB7 HI8 HX6 AW6 HWR hH hO hset hBx m1;go_upto_region 14 with (fail);go_cut [8] from 58 to 71 (fun s8 wx => s8 = .pointer (some ⟨w4.heap.size, 0, none⟩) /\ Aside (∃ g, Step p S (w.alloc (.cells #[.pointer (some ⟨p.m, 0, none⟩)] 31)) P { S8 with sl:=S8.sl.set s { x6 with res:=some ⟨g, b, v.kind, sizeM v, false⟩ } } wx /\ LmMem wx P N NW NS { S8 with sl:=S8.sl.set s { x6 with res:=some ⟨g, b, v.kind, sizeM v, false⟩ } } /\ Blk wx w.heap.size 31 #[.pointer (some ⟨p.m, 0, none⟩)] /\ w7.heap.size <= g))
   case first =>
    have hsz:=fun W => size_any v A ca B cb W;unfold obV at hsz;rw [<- HN1.out, <- HN2.out] at hsz;have HSZ:=hid hsz;obtain ⟨-, -, -, -, m4, -⟩:=HM8.out.look2;rw [hpm, hpsb] at m4;have hBx:=BX8.out.cell 0;have o0:=BO8.out.cell 0;have o1:=BO8.out.cell 1;have o2:=BO8.out.cell 2;have o3:=BO8.out.cell 3;simp only [qTa, qTb, qTc] at hBx o0 o1 o2 o3;have hsI : (s : Int) < (NS : Int) + 1:=by omega
    have hsJ : (0 : Int) <= (s : Int):=by omega
    clear hsz;go_region_held3 (fun w' => w'.cell? ⟨w.heap.size, 0, none⟩ = some (.pointer (some ⟨p.m, 0, none⟩)) /\ w'.cell? ⟨p.m, 4, none⟩ = some (.slice (some ⟨p.sb, 0, none⟩) (NS + 1) (NS + 1)) /\ w'.cell? ⟨w4.heap.size, 0, none⟩ = some (.int .i64 v.cls) /\ w'.cell? ⟨w4.heap.size, 1, none⟩ = some (.int .i64 v.kind) /\ w'.cell? ⟨w4.heap.size, 2, none⟩ = some (.slice A n1 ca) /\ w'.cell? ⟨w4.heap.size, 3, none⟩ = some (.slice B n2 cb))
     (first | exact ⟨z0, z1, z2, z3, z4, z5⟩ | go_keep | exact ⟨keep_cell (hos _ _) z0 y0 q1, keep_cell (hos _ _) z1 y1 q2, keep_cell (hos _ _) z2 y2 q3, keep_cell (hos _ _) z3 y2 q3, keep_cell (hos _ _) z4 y2 q3, keep_cell (hos _ _) z5 y2 q3⟩)
     (first | (go_at_call 52; refine (HSZ.out _).mono ?_; rintro e w8 ⟨rfl, hb⟩; have M9:=HM8.out.drew.below hb; have hx9:=BX8.out.drew.keep hb; have ho9:=BO8.out.drew.keep hb; obtain ⟨-, -, -, -, z1, -⟩:=M9.look2; rw [hpm, hpsb] at z1; have z0:=hx9.cell 0; have z2:=ho9.cell 0; have z3:=ho9.cell 1; have z4:=ho9.cell 2; have z5:=ho9.cell 3; simp only [qTa, qTb, qTc] at z0 z2 z3 z4 z5; have zlt:=M9.slots.lt; rw [hpsb] at zlt; have y0:=hx9.lt; have y2:=ho9.lt; have y1:=M9.head.lt; rw [hpm] at y1; have hos:=fun (u : Value) (o : Obj) => (((Only.refl (fun k => k = p.sb) w8).setCell (p:=⟨p.sb, s * 3, none⟩) (.inl rfl) u).alloc o); have f9:=M9.slotf (s * 3); rw [hpsb] at f9; obtain ⟨d9, -, -⟩:=M9.look HX8.out; rw [hpsb, HI6.out.2, Option.map_none] at d9))
    go_wp2_with fail;go_meet;have hex : (w8.setCell ⟨p.sb, s * 3, none⟩ (.pointer (some ⟨w8.heap.size, 0, none⟩))).alloc (.cells #[.int .i64 (b : Int), .int .i64 v.kind, .int .i64 (sizeM v : Int), .bool false] 85) = (w8.alloc (.cells #[.int .i64 (b : Int), .int .i64 v.kind, .int .i64 (sizeM v : Int), .bool false] 85)).setCell ⟨p.sb, s * 3, none⟩ (.pointer (some ⟨w8.heap.size, 0, none⟩)) :=
     (World.setCell_alloc_past _ _ _ _ zlt).symm
    rw [hex];have hal:=(Below.refl w8.heap.size w8).alloc (Nat.le_refl _) (.cells #[.int .i64 (b : Int), .int .i64 v.kind, .int .i64 (sizeM v : Int), .bool false] 85);have M10:=(M9.below hal).toHere HX8.out ⟨w8.heap.size, b, v.kind, sizeM v, false⟩ (Blk.new w8 85 _) (fun hs => by have:=M9.lt _ hs; dsimp only at this; omega);have hz8:=hb.size;rw [hpsb] at M10;refine ⟨rfl, w8.heap.size, ?_, M10, (hx9.keep hal).far (p:=⟨p.sb, s * 3, none⟩) q1 _, hz8⟩;refine ST8.out.trans ((Step.of (S':=S8) (fun k hk => hk) ((only_drew _ w7).trans (only_of hb _))).trans ⟨rfl, ?_, ((Only.refl _ w8).alloc _).setCell (p:=⟨p.sb, s * 3, none⟩) (.inl ⟨5, hpsb.symm⟩) _⟩);intro k hk;rcases set_here HX8.out P k hk with h1 | h1
    ·exact .inl h1
    ·exact .inr (by rw [h1]; exact Nat.le_refl _)
   obtain ⟨rfl, hcc⟩:=hcut;obtain ⟨g, st9, M9, bx9, hgl⟩:=hcc.out;have hil : i < S8.D.length:=by rw [<- HI9.out.lenV]; exact (List.getElem?_eq_some_iff.1 HV.out).1
   have hD8 : S8.D[i]? = some v:=by have h1:=HI9.out.awayV (getElem?_eq_getElem hil) AW8.out;rw [HV.out] at h1;rw [getElem?_eq_getElem hil];exact h1.symm
   have I9:=HI9.out.arrive (r:=⟨g, b, v.kind, sizeM v, false⟩) s1 HX8.out HI6.out.2 HI6.out.1 hD8 rfl rfl HHV8.out (narM_length HOK.out) (narM_means S8.ids HBV.out) narM_ok (fun h => h) HM8.out.dist HM8.out.lenL true;have I10:=I9.toBusy 0 (by omega) (fun k => False \/ k = s) (fun k h _ => h.elim) (fun _ _ => .inr HB8.out);have I11:=I10.keep (x:={ x6 with res:=some ⟨g, b, v.kind, sizeM v, false⟩ }) (List.getElem?_set_self (List.getElem?_eq_some_iff.1 HX8.out).1) (.inl (by simp));have hx9 : (S8.sl.set s { x6 with res:=some ⟨g, b, v.kind, sizeM v, false⟩ })[s]? = some { x6 with res:=some ⟨g, b, v.kind, sizeM v, false⟩ }:=List.getElem?_set_self (List.getElem?_eq_some_iff.1 HX8.out).1;have hq9 : ∀ k, P.set (S8.sl.set s { x6 with res:=some ⟨g, b, v.kind, sizeM v, false⟩ }) k -> k ≠ w.heap.size:=fun k hk => by
    rcases set_here HX8.out P k hk with h1 | h1
    ·exact HQ9.out k h1
    ·have:=BX8.out.lt;dsimp only at h1;omega
   have hlL:=HM8.out.lenL;obtain ⟨-, -, -, m3, -, -⟩:=M9.look2;rw [hpm] at m3;have hin:=Ck.in_ok wc P.c P.lb S8.hand S8.L s true M9.clk (by omega);rw [hpc.1, hpc.2] at hin;have HIN:=hid hin;have HM9:=hid M9;have HI11:=hid I11;have ST9:=hid st9;have BX9:=hid bx9;have HX9:=hid hx9;have HQ10:=hid hq9;have hBx:=bx9.cell 0;simp only [qTa, qTb] at hBx;clear hgl hin M9 I11 I10 I9 st9 bx9 hx9 hq9 hD8 hil hcc HQ9 HI9 AW8 HM8 BX8 BO8 ST8 HHV8 HN HNV HOK HBV HD3 hpm q1 q2 q3;go_wp2_with fail;refine HIN.out.mono ?_;rintro e wd ⟨rfl, hC, hO⟩;rw [<- hpc.1, <- hpc.2] at hC hO;have M10:=HM9.out.toClk hO _ _ hC (by rw [length_set]; exact hlL);have bx10:=BX9.out.only (ck_only hO) (fun e => HQ10.out _ ⟨4, e⟩ rfl);have hset : ∀ k, (k = P.c \/ k = P.lb) -> P.set (S8.sl.set s { x6 with res:=some ⟨g, b, v.kind, sizeM v, false⟩ }) k:=fun k hk => ⟨4, hk⟩;have st10:=ST9.out.trans (Step.of (S':={ S8 with L:=S8.L.set s ⟨true, false, false⟩, sl:=S8.sl.set s { x6 with res:=some ⟨g, b, v.kind, sizeM v, false⟩ } }) (fun k hk => hk) ((ck_only hO).mono hset));have hal:=(Below.refl wd.heap.size wd).alloc (Nat.le_refl _) (.cells #[.int .i64 (s : Int)] 3);have M11:=M10.below hal;have bx11:=bx10.keep hal;have hlt9 : s < S8.L.length:=by omega
   have htc:=touch_one _ P.c P.lb S8.hand wd.heap.size s (S8.L.set s ⟨true, false, false⟩) ⟨true, false, false⟩ M11.clk (Blk.new wd 3 _) (List.getElem?_set_self hlt9) rfl;rw [hpc.1, hpc.2] at htc;have HTC:=hid htc;have HM11:=hid M11;have BX11:=hid bx11;have ST11:=hid (st10.trans (Step.of (S':={ S8 with L:=S8.L.set s ⟨true, false, false⟩, sl:=S8.sl.set s { x6 with res:=some ⟨g, b, v.kind, sizeM v, false⟩ } }) (fun k hk => hk) (only_of hal _)));obtain ⟨-, -, -, m3, -, -⟩:=M10.look2;have hpm3 : P.m = p.m:=by rw [HPP.out]
   rw [hpm3] at m3;have hBx:=bx10.cell 0;simp only [qTa, qTb] at hBx;clear htc M11 bx11 st10 hal M10 bx10 hset hC hO HIN HM9 ST9 BX9;go_wp2_with fail;refine HTC.out.mono ?_;rintro e we ⟨rfl, hC, hO⟩;rw [<- hpc.1, <- hpc.2] at hC hO;have M12:=HM11.out.toClk hO _ _ hC (by rw [length_set, length_set]; exact hlL);have bx12:=BX11.out.only (ck_only hO) (fun e => HQ10.out _ ⟨4, e⟩ rfl);have hset : ∀ k, (k = P.c \/ k = P.lb) -> P.set (S8.sl.set s { x6 with res:=some ⟨g, b, v.kind, sizeM v, false⟩ }) k:=fun k hk => ⟨4, hk⟩;rw [List.set_set] at M12;have st12:=ST11.out.trans (Step.of (S':={ S8 with L:=S8.L.set s ⟨true, true, false⟩, sl:=S8.sl.set s { x6 with res:=some ⟨g, b, v.kind, sizeM v, false⟩ } }) (fun k hk => hk) ((ck_only hO).mono hset));have M13:=M12.toBusy 0;have st13:=ST0.out.trans (st12.trans (Step.of (S':={ S8 with busy:=0, L:=S8.L.set s ⟨true, true, false⟩, sl:=S8.sl.set s { x6 with res:=some ⟨g, b, v.kind, sizeM v, false⟩ } }) (fun k hk => hk) ((Only.refl _ we).setCell (p:=⟨P.m, 5, none⟩) (.inl ⟨0, rfl⟩) (.int .i64 0))));obtain ⟨-, -, -, -, m4, -⟩:=M12.look2;rw [hpm3, hpsb] at m4;have hBx:=bx12.cell 0;have hBy:=hBx;rw [<- hpm3] at hBy;have hcd:=calm_down P N NW NS _ w.heap.size .returning we M12 (by simpa using hBy);have HCD:=hid hcd;have e13 : NeedPost p N NW NS S Vt i w (.returned (.tuple #[.pointer (some ⟨p.sb, s * 3, none⟩), .int .i64 0])) (we.setCell ⟨P.m, 5, none⟩ (.int .i64 0)):=by rw [HPP.out] at st13 M13 ⊢;refine .inr ⟨s, { x6 with res:=some ⟨g, b, v.kind, sizeM v, false⟩ }, ⟨g, b, v.kind, sizeM v, false⟩, H, _, rfl, ?_, M13, HI11.out, rfl, HX9.out, rfl, HI6.out.1⟩;exact st13
   have HE:=hid e13;simp only [qTa, qTb] at hBx;clear hcd e13 st13 M13 st12 hset bx12 M12 hC hO hBy HTC HM11 BX11 ST11 HI11 HQ10 HX9 m3 HX8 HI6 HB8 ST0 HV HLOW HPP;go_wp2_with fail;refine leaves_cons (f:=206) (args:=#[.pointer (some ⟨w.heap.size, 0, none⟩)]) (by simp) (by simp [go_sem]) ?_;refine HCD.out.mono ?_;rintro e u' w'' ⟨rfl, rfl, rfl⟩;refine ⟨_, results_tmp2 rfl _ _ _, ?_⟩;exact HE.out
end Go.Proofs.YtgaemfghpibeeaaGreatDoor
namespace Go.Proofs.YtgaemfghpibeeaaGreatDoor
open Go.RowKit
theorem lid_any (p : LmP) (N NW NS i : Nat) (S : St) (w : World) (h : LmMem w p N NW NS S) (hi : i < S.D.length) (hsm : i < 1073741823) :
  Calls Tryz.prog 168 #[.pointer (some ⟨p.m, 0, none⟩), .int .i64 (2 * ((i : Int) + 1))] w fun e w' => e = .returned (.tuple #[.int .i64 ((i : Int) + 1), .int .i64 0]) /\ Below w.heap.size w w':=by
 obtain ⟨m0, -, -, -, -, -⟩:=h.look2;have hnm:=named_any (2 * ((i : Int) + 1)) w;have hval : namM (2 * ((i : Int) + 1)) = ((i : Int) + 1, true):=by
  unfold namM;rw [if_neg (by omega)]
  congr 1;omega
 rw [hval] at hnm;have hhas:=secHas_any p.Q N S.D ((i : Int) + 1) w h.disk (by omega);have e : hasM S.D ((i : Int) + 1) = true:=by simp [hasM]; omega
 rw [e] at hhas;have HNM:=Lib.hid hnm;have HHAS:=Lib.hid hhas;clear hnm hhas hval e h;go_enter Tryz.func168, Tryz.ntmps168;go_wp2_with fail;refine HNM.out.mono ?_;rintro e w2 ⟨rfl, rfl⟩;go_wp2_with fail;refine HHAS.out.mono ?_;rintro e w2 ⟨rfl, hb⟩;have HB:=Lib.hid hb;clear hb;go_wp2_with fail;go_ret2;exact ⟨rfl, HB.out⟩
section
variable {NS : Nat} {S : St} {Vt : List Ob} {ext : List Int} {ex pend : Nat -> Prop}
theorem Inv.find (h : Inv NS S Vt ext ex pend) (hd : ∀ s s', S.ids.getD s 0 = S.ids.getD s' 0 -> S.ids.getD s 0 ≠ 0 -> s = s') (i : Nat) :
  (∃ s x, S.sl[s]? = some x /\ 1 <= s /\ s <= NS /\ S.ids.getD s 0 = (i : Int) + 1 /\ x.id = (i : Int) + 1 /\ ((∃ r, x.res = some r) \/ (x.res = none /\ Away S ((i : Int) + 1)))) \/
  ((∀ s, 1 <= s -> s <= NS -> S.ids.getD s 0 ≠ (i : Int) + 1) /\ Away S ((i : Int) + 1)):=by
 have hlS:=h.lenS;by_cases hb : ∃ s, 1 <= s /\ s <= NS /\ S.ids.getD s 0 = (i : Int) + 1
 ·obtain ⟨s, s1, s2, hs⟩:=hb;obtain ⟨x, hx⟩ : ∃ x, S.sl[s]? = some x:=⟨_, getElem?_eq_getElem (by omega)⟩;refine .inl ⟨s, x, hx, s1, s2, hs, (h.ids s x hx).trans hs, ?_⟩;cases hr : x.res with
  | some r => exact .inl ⟨r, rfl⟩
  | none =>
   refine .inr ⟨rfl, fun s' z hz hzi => ?_⟩;have e : s' = s:=hd s' s (by rw [<- h.ids s' z hz, hzi, hs]) (by rw [<- h.ids s' z hz, hzi]; omega);subst e;rw [hx] at hz;cases hz
   exact hr
 ·refine .inr ⟨fun s s1 s2 e => hb ⟨s, s1, s2, e⟩, fun s' z hz hzi => ?_⟩;exfalso;have hlt:=(List.getElem?_eq_some_iff.1 hz).1;refine hb ⟨s', ?_, by omega, by rw [<- h.ids s' z hz]; exact hzi⟩;rcases Nat.eq_zero_or_pos s' with e | e
  ·subst e;have:=(h.zero z hz).2;omega
  ·exact e
end
theorem need_any (p : LmP) (N NW NS i : Nat) (S : St) (Vt : List Ob) (v : Ob) (w : World) (h : LmMem w p N NW NS S) (hI : Inv NS S Vt [] (fun _ => False) (fun _ => False)) (hbusy : S.busy = 0) (hv : Vt[i]? = some v) (hsm : i < 1073741823) :
  Calls Tryz.prog 183 #[.pointer (some ⟨p.m, 0, none⟩), .int .i64 (2 * ((i : Int) + 1))] w (NeedPost p N NW NS S Vt i w):=by
 have hid:=lid_any p N NW NS i S w h (by rw [<- hI.lenV]; exact (List.getElem?_eq_some_iff.1 hv).1) hsm;have HID:=Lib.hid hid;have HM:=Lib.hid h;have HI:=Lib.hid hI;have HV:=Lib.hid hv;have HBU:=Lib.hid hbusy;clear hid h hI hv hbusy;go_enter Tryz.func183, Tryz.ntmps183;go_wp2_with fail;refine HID.out.mono ?_;rintro e w1 ⟨rfl, hb⟩;have M1:=HM.out.below hb;have st1 : Step p S w p S w1:=Step.of (fun k h => h) (only_of hb _);have NSs:=M1.small;obtain ⟨hash, hn, hi⟩:=M1.names;obtain ⟨-, -, m2, m3, m4, -⟩:=M1.look2;rcases HI.out.find M1.dist i with ⟨s, x, hx, s1, s2, hs, hxi, hr | ⟨hr, haw⟩⟩ | ⟨hno, haw⟩
 ·obtain ⟨r, hr⟩:=hr;have hsl:=slot_yes p.T NS S.ids hash ((i : Int) + 1) s w1 hn hi (by omega) (by omega) s1 s2 hs;obtain ⟨d0, -, -⟩:=M1.look hx;rw [hr, Option.map_some] at d0;have hal:=(Below.refl w1.heap.size w1).alloc (Nat.le_refl _) (.cells #[.int .i64 (s : Int)] 3);have M2:=M1.below hal;have hlL:=M1.lenL;obtain ⟨pl, hpl⟩ : ∃ pl, S.L[s]? = some pl:=⟨_, getElem?_eq_getElem (by omega)⟩;obtain ⟨hpi, hpp⟩:=HI.out.clock s x pl hx hpl;rw [hr] at hpi;have htc:=touch_one _ p.c p.lb S.hand w1.heap.size s S.L pl M2.clk (Blk.new w1 3 _) hpl hpi;have I2:=HI.out.ticks (S.L.set s { pl with t:=true }) S.hand (by rw [length_set]; exact HI.out.hand) (by
   intro s' q hq;rw [List.getElem?_set] at hq;by_cases e : s = s'
   ·subst e;rw [if_pos rfl] at hq;split at hq
    ·cases hq; exact ⟨pl, hpl, rfl, rfl⟩
    ·cases hq
   ·rw [if_neg e] at hq; exact ⟨q, hq, rfl, rfl⟩)
  have HSL:=Lib.hid hsl;have HTC:=Lib.hid htc;have HM2:=Lib.hid M2;have HI2:=Lib.hid I2;have ST2:=Lib.hid (st1.trans (Step.of (S':=S) (fun k h => h) (only_of hal _)));have HX:=Lib.hid hx;have HR:=Lib.hid hr;have HXI:=Lib.hid hxi;have HLL:=Lib.hid hlL;have hsN : s < NS + 1:=by omega
  clear hsl htc M2 I2 hx hr hxi hlL hpl hpi hpp hal M1 st1 hb hn hi hs HM HI HV HID;go_wp2_with fail;refine HSL.out.mono ?_;rintro e w2 ⟨rfl, rfl⟩;go_wp2_with fail;refine HTC.out.mono ?_;rintro e w3 ⟨rfl, hC, hO⟩;have M3:=HM2.out.toClk hO _ _ hC (by rw [length_set]; exact HLL.out);have hset : ∀ k, (k = p.c \/ k = p.lb) -> p.set S.sl k:=fun k hk => ⟨4, hk⟩;have st3:=ST2.out.trans (Step.of (S':={ S with L:=S.L.set s { pl with t:=true }, hand:=S.hand }) (fun k h => h) ((ck_only hO).mono hset));have e3 : NeedPost p N NW NS S Vt i w (.returned (.tuple #[.pointer (some ⟨p.sb, s * 3, none⟩), .int .i64 0])) w3 :=
   .inr ⟨s, x, r, p.H, _, rfl, st3, M3, HI2.out, HBU.out, HX.out, HR.out, HXI.out⟩
  have HE:=Lib.hid e3;obtain ⟨-, -, -, -, m4', -⟩:=M3.look2;clear e3 st3 M3 hset hC hO HSL HTC HM2 HI2 ST2 HX HR HXI HLL HBU d0 m2 m3 m4;go_wp2_with fail;go_ret2;exact HE.out
 ·have hsl:=slot_yes p.T NS S.ids hash ((i : Int) + 1) s w1 hn hi (by omega) (by omega) s1 s2 hs;obtain ⟨d0, -, -⟩:=M1.look hx;rw [hr, Option.map_none] at d0;have hft:=fault_any p N NW NS i S Vt v w1 M1 HI.out HBU.out HV.out haw hsm;have HSL:=Lib.hid hsl;have HFT:=Lib.hid hft;have ST1:=Lib.hid st1;have hsN : s < NS + 1:=by omega
  clear hsl hft hx hr hxi M1 st1 hb hn hi hs HM HI HV HID haw m3;go_wp2_with fail;refine HSL.out.mono ?_;rintro e w2 ⟨rfl, rfl⟩;go_wp2_with fail;refine HFT.out.mono ?_;rintro e w3 (⟨rfl, H, S', st, M3, I3, b3⟩ | ⟨s', x', r', H, S', rfl, st, M3, I3, b3, hx', hr', hi'⟩)
  ·have e3 : NeedPost p N NW NS S Vt i w (.returned (.tuple #[.pointer none, .int .i64 3])) w3:=.inl ⟨rfl, H, S', ST1.out.trans st, M3, I3, b3⟩;have HE:=Lib.hid e3;clear e3 st M3 I3 b3 HFT HSL ST1 d0 m2 m4;go_wp2_with fail;go_ret2;exact HE.out
  ·have e3 : NeedPost p N NW NS S Vt i w (.returned (.tuple #[.pointer (some ⟨p.sb, s' * 3, none⟩), .int .i64 0])) w3:=.inr ⟨s', x', r', H, S', rfl, ST1.out.trans st, M3, I3, b3, hx', hr', hi'⟩;have HE:=Lib.hid e3;clear e3 st M3 I3 b3 HFT HSL ST1 d0 m2 m4 hx' hr' hi';go_wp2_with fail;go_ret2;exact HE.out
 ·have hsl:=slot_no p.T NS S.ids hash ((i : Int) + 1) w1 hn hi (by omega) (by omega) hno;have hft:=fault_any p N NW NS i S Vt v w1 M1 HI.out HBU.out HV.out haw hsm;have HSL:=Lib.hid hsl;have HFT:=Lib.hid hft;have ST1:=Lib.hid st1;clear hsl hft M1 st1 hb hn hi hno HM HI HV HID haw m3 m4;go_wp2_with fail;refine HSL.out.mono ?_;rintro e w2 ⟨rfl, rfl⟩;go_wp2_with fail;refine HFT.out.mono ?_;rintro e w3 (⟨rfl, H, S', st, M3, I3, b3⟩ | ⟨s', x', r', H, S', rfl, st, M3, I3, b3, hx', hr', hi'⟩)
  ·have e3 : NeedPost p N NW NS S Vt i w (.returned (.tuple #[.pointer none, .int .i64 3])) w3:=.inl ⟨rfl, H, S', ST1.out.trans st, M3, I3, b3⟩;have HE:=Lib.hid e3;clear e3 st M3 I3 b3 HFT HSL ST1 m2;go_wp2_with fail;go_ret2;exact HE.out
  ·have e3 : NeedPost p N NW NS S Vt i w (.returned (.tuple #[.pointer (some ⟨p.sb, s' * 3, none⟩), .int .i64 0])) w3:=.inr ⟨s', x', r', H, S', rfl, ST1.out.trans st, M3, I3, b3, hx', hr', hi'⟩;have HE:=Lib.hid e3;clear e3 st M3 I3 b3 HFT HSL ST1 m2 hx' hr' hi';go_wp2_with fail;go_ret2;exact HE.out
end Go.Proofs.YtgaemfghpibeeaaGreatDoor
namespace Go.Proofs.YtgaemfghpibeeaaGreatDoor
open Go.RowKit
def ShapePost (p : LmP) (N NW NS : Nat) (S : St) (v : Ob) (w : World) (e : Ending) (w' : World) : Prop :=
 e = .returned (.tuple #[.int .i64 v.kind, .int .i64 (sizeM v : Int)]) /\ LmMem w' p N NW NS S /\ Step p S w p S w'
theorem fresh_obj {w w4 : World} {p : LmP} {N NW NS : Nat} {S : St} {v : Ob} {A B : Option Addr} {ca cb : Nat} (h : LmMem w p N NW NS S) (hS : SecAt w4 p.Q N S.D) (hO : Only (fun g => g = p.Q.P.d) w w4) :
  LmMem (w4.alloc (.cells (obV v A ca B cb) 29)) p N NW NS S /\ Step p S w p S (w4.alloc (.cells (obV v A ca B cb) 29)) /\ Blk (w4.alloc (.cells (obV v A ca B cb) 29)) w4.heap.size 29 (obV v A ca B cb):=by
 have hal:=(Below.refl w4.heap.size w4).alloc (Nat.le_refl _) (.cells (obV v A ca B cb) 29);have hset : ∀ k, k = p.Q.P.d -> p.set S.sl k:=fun k e => by subst e; exact ⟨1, .inr (.inr (.inr (.inl rfl)))⟩
 exact ⟨(h.taken hS hO).below hal, (Step.of (S':=S) (fun k h => h) (hO.mono hset)).trans (Step.of (S':=S) (fun k h => h) (only_of hal _)), Blk.new _ _ _⟩
theorem shape_any (p : LmP) (N NW NS i : Nat) (S : St) (Vt : List Ob) (v : Ob) (w : World) (h : LmMem w p N NW NS S) (hI : Inv NS S Vt [] (fun _ => False) (fun _ => False)) (hv : Vt[i]? = some v) (hsm : i < 1073741823) :
  Calls Tryz.prog 182 #[.pointer (some ⟨p.m, 0, none⟩), .int .i64 ((i : Int) + 1)] w (ShapePost p N NW NS S v w):=by
 have NSs:=h.small;obtain ⟨hash, hn, hi⟩:=h.names;obtain ⟨m0, -, m2, -, m4, -⟩:=h.look2;have hfind:=hI.find h.dist i;have hcase : (∃ s x r, S.sl[s]? = some x /\ x.res = some r /\ s < NS + 1 /\ r.kind = v.kind /\ r.size = sizeM v /\ Calls Tryz.prog 169 #[.pointer (some ⟨p.T.t, 0, none⟩), .int .i64 ((i : Int) + 1)] w fun e w' => e = .returned (.tuple #[.int .i64 s, .bool true]) /\ w = w') \/ Away S ((i : Int) + 1):=by
  rcases hfind with ⟨s, x, hx, s1, s2, hs, hxi, ⟨r, hr⟩ | ⟨hr, haw⟩⟩ | ⟨hno, haw⟩
  ·obtain ⟨i2, o, u, ws, k1, k2, k3, k4, k5, k6, k7, k8, -⟩:=hI.here s x r hx hr;have ei : i2 = i:=by have:=k1.symm.trans hxi; omega
   subst ei;obtain rfl:=Option.some.inj (k3.symm.trans hv);exact .inl ⟨s, x, r, hx, hr, by omega, k4.trans k8.kind.symm, k5.trans k8.size.symm, slot_yes p.T NS S.ids hash ((i2 : Int) + 1) s w hn hi (by omega) (by omega) s1 s2 hs⟩
  ·exact .inr haw
  ·exact .inr haw
 rcases hcase with ⟨s, x, r, hx, hr, hsN, hk, hz, hsl⟩ | haw
 ·obtain ⟨d0, -, -⟩:=h.look hx;rw [hr, Option.map_some] at d0;obtain ⟨-, r1, r2, -, -⟩:=h.res hx hr;rw [hk] at r1;rw [hz] at r2;have HSL:=Lib.hid hsl;have HM:=Lib.hid h;clear hsl hx hr hk hz h hI hn hi hfind hv m0;go_enter Tryz.func182, Tryz.ntmps182;go_wp2_with fail;refine HSL.out.mono ?_;rintro e w2 ⟨rfl, rfl⟩;go_wp2_with fail;go_quiet (fail)
  go_wp2_with fail;go_ret2;exact ⟨rfl, HM.out.drewN _, Step.of (fun k h => h) ((Only.refl _ w).drewN _)⟩
 ·have hil : i < S.D.length:=by rw [<- hI.lenV]; exact (List.getElem?_eq_some_iff.1 hv).1
  have hD : S.D[i]? = some v:=by have h1:=hI.awayV (getElem?_eq_getElem hil) haw;rw [hv] at h1;rw [getElem?_eq_getElem hil];exact h1.symm
  have hok:=h.disk.ok v (mem_of_getElem? hD);have hbv:=h.disk.vals hD;have hft:=fetch_ok p.Q N S.D i v w h.disk hD;obtain ⟨n1, hn1⟩ : ∃ n, n = v.ws.length:=⟨_, rfl⟩;obtain ⟨n2, hn2⟩ : ∃ n, n = v.bs.length:=⟨_, rfl⟩;have hsz:=fun A ca B cb W => size_any v A ca B cb W;have hslot : (∃ s x, S.sl[s]? = some x /\ x.res = none /\ s < NS + 1 /\ Calls Tryz.prog 169 #[.pointer (some ⟨p.T.t, 0, none⟩), .int .i64 ((i : Int) + 1)] w fun e w' => e = .returned (.tuple #[.int .i64 s, .bool true]) /\ w = w') \/ Calls Tryz.prog 169 #[.pointer (some ⟨p.T.t, 0, none⟩), .int .i64 ((i : Int) + 1)] w fun e w' => e = .returned (.tuple #[.int .i64 0, .bool false]) /\ w = w':=by
   rcases hfind with ⟨s, x, hx, s1, s2, hs, hxi, ⟨r, hr⟩ | ⟨hr, _⟩⟩ | ⟨hno, _⟩
   ·have:=haw s x hx hxi;rw [hr] at this; cases this
   ·exact .inl ⟨s, x, hx, hr, by omega, slot_yes p.T NS S.ids hash ((i : Int) + 1) s w hn hi (by omega) (by omega) s1 s2 hs⟩
   ·exact .inr (slot_no p.T NS S.ids hash ((i : Int) + 1) w hn hi (by omega) (by omega) hno)
  have HFT:=Lib.hid hft;have HSZ:=Lib.hid hsz;have HM:=Lib.hid h;have HOK:=Lib.hid hok;have HBV:=Lib.hid hbv;clear hft hsz hI hn hi hfind hv hok hbv hD hil haw;rcases hslot with ⟨s, x, hx, hr, hsN, hsl⟩ | hsl
  ·obtain ⟨d0, -, -⟩:=h.look hx;rw [hr, Option.map_none] at d0;have HSL:=Lib.hid hsl;clear hsl hx hr h;go_enter Tryz.func182, Tryz.ntmps182;go_wp2_with fail;refine HSL.out.mono ?_;rintro e w2 ⟨rfl, rfl⟩;go_wp2_with fail;refine HFT.out.mono ?_;rintro e w4 ⟨y, rfl, hF, hS, hO⟩;obtain ⟨A, ca, B, cb, rfl, hR, -, -, -, -⟩:=hF.parts HOK.out HBV.out;obtain ⟨f1, f2, f3⟩:=fresh_obj (v:=v) (A:=A) (B:=B) (ca:=ca) (cb:=cb) HM.out hS hO;have hz:=HSZ.out A ca B cb;unfold obV at f1 f2 f3 hz ⊢;rw [<- hn1, <- hn2] at f1 f2 f3 hz ⊢;have F1:=Lib.hid f1;have F2:=Lib.hid f2;have HZ:=Lib.hid hz;clear f1 f2 hz hF hR hS hO HFT HSL HM HOK HBV HSZ m0 m2 m4 d0 hn1 hn2;have f3':=f3.drew;go_wp2_with fail;go_region_held3 (fun w' => w'.cell? ⟨w4.heap.size, 0, none⟩ = some (.int .i64 v.cls) /\ w'.cell? ⟨w4.heap.size, 1, none⟩ = some (.int .i64 v.kind) /\ w'.cell? ⟨w4.heap.size, 2, none⟩ = some (.slice A n1 ca) /\ w'.cell? ⟨w4.heap.size, 3, none⟩ = some (.slice B n2 cb))
    (first | exact ⟨z2, z3, z4, z5⟩ | go_keep)
    (first | (go_at_call 52; refine (HZ.out _).mono ?_; rintro e w8 ⟨rfl, hb⟩; have ho9:=f3'.keep hb; have z2:=ho9.cell 0; have z3:=ho9.cell 1; have z4:=ho9.cell 2; have z5:=ho9.cell 3; simp only [qTa, qTb, qTc] at z2 z3 z4 z5))
   go_wp2_with fail;go_ret2;exact ⟨rfl, F1.out.drew.below hb, F2.out.trans (Step.of (S':=S) (fun k h => h) ((only_drew _ _).trans (only_of hb _)))⟩
  ·have HSL:=Lib.hid hsl;clear hsl h;go_enter Tryz.func182, Tryz.ntmps182;go_wp2_with fail;refine HSL.out.mono ?_;rintro e w2 ⟨rfl, rfl⟩;go_wp2_with fail;refine HFT.out.mono ?_;rintro e w4 ⟨y, rfl, hF, hS, hO⟩;obtain ⟨A, ca, B, cb, rfl, hR, -, -, -, -⟩:=hF.parts HOK.out HBV.out;obtain ⟨f1, f2, f3⟩:=fresh_obj (v:=v) (A:=A) (B:=B) (ca:=ca) (cb:=cb) HM.out hS hO;have hz:=HSZ.out A ca B cb;unfold obV at f1 f2 f3 hz ⊢;rw [<- hn1, <- hn2] at f1 f2 f3 hz ⊢;have F1:=Lib.hid f1;have F2:=Lib.hid f2;have HZ:=Lib.hid hz;clear f1 f2 hz hF hR hS hO HFT HSL HM HOK HBV HSZ m0 m2 m4 hn1 hn2;have f3':=f3.drew;go_wp2_with fail;go_region_held3 (fun w' => w'.cell? ⟨w4.heap.size, 0, none⟩ = some (.int .i64 v.cls) /\ w'.cell? ⟨w4.heap.size, 1, none⟩ = some (.int .i64 v.kind) /\ w'.cell? ⟨w4.heap.size, 2, none⟩ = some (.slice A n1 ca) /\ w'.cell? ⟨w4.heap.size, 3, none⟩ = some (.slice B n2 cb))
    (first | exact ⟨z2, z3, z4, z5⟩ | go_keep)
    (first | (go_at_call 52; refine (HZ.out _).mono ?_; rintro e w8 ⟨rfl, hb⟩; have ho9:=f3'.keep hb; have z2:=ho9.cell 0; have z3:=ho9.cell 1; have z4:=ho9.cell 2; have z5:=ho9.cell 3; simp only [qTa, qTb, qTc] at z2 z3 z4 z5))
   go_wp2_with fail;go_ret2;exact ⟨rfl, F1.out.drew.below hb, F2.out.trans (Step.of (S':=S) (fun k h => h) ((only_drew _ _).trans (only_of hb _)))⟩
theorem place_any (p : LmP) (N NW NS i j : Nat) (S : St) (Vt : List Ob) (v : Ob) (w : World) (h : LmMem w p N NW NS S) (hI : Inv NS S Vt [] (fun _ => False) (fun _ => False)) (hbusy : S.busy = 0) (hv : Vt[i]? = some v) (hsm : i < 1073741823) (hj : j < sizeM v) :
  Calls Tryz.prog 171 #[.pointer (some ⟨p.m, 0, none⟩), .int .i64 (2 * ((i : Int) + 1)), .int .i64 v.kind, .int .i64 j] w (NeedPost p N NW NS S Vt i w):=by
 have hid:=lid_any p N NW NS i S w h (by rw [<- hI.lenV]; exact (List.getElem?_eq_some_iff.1 hv).1) hsm;obtain ⟨k, hk⟩ : ∃ k, k = v.kind:=⟨_, rfl⟩;obtain ⟨z, hz⟩ : ∃ z, z = sizeM v:=⟨_, rfl⟩;have hsh:=fun (W : World) (hW : LmMem W p N NW NS S) => shape_any p N NW NS i S Vt v W hW hI hv hsm;have hnd:=fun (W : World) (hW : LmMem W p N NW NS S) => need_any p N NW NS i S Vt v W hW hI hbusy hv hsm;unfold ShapePost at hsh;rw [<- hk, <- hz] at hsh;rw [<- hk];rw [<- hz] at hj;have hkk : (k != k) = false:=by simp
 have hji : (j : Int) < (z : Int):=by omega
 have HID:=Lib.hid hid;have HSH:=Lib.hid hsh;have HND:=Lib.hid hnd;have HM:=Lib.hid h;clear hid hsh hnd h hI hbusy hv hk hz;go_enter Tryz.func171, Tryz.ntmps171;go_wp2_with fail;refine HID.out.mono ?_;rintro e w1 ⟨rfl, hb⟩;have M1:=HM.out.below hb;have st1 : Step p S w p S w1:=Step.of (fun k h => h) (only_of hb _);have HS1:=Lib.hid (HSH.out w1 M1);have ST1:=Lib.hid st1;clear M1 st1 hb HID HSH;go_wp2_with fail;refine HS1.out.mono ?_;rintro e w2 ⟨rfl, M2, st2⟩;have HN2:=Lib.hid (HND.out w2 M2);have ST2:=Lib.hid (ST1.out.trans st2);clear M2 st2 HS1 ST1 HND;go_wp2_with fail;refine HN2.out.mono ?_;rintro e w3 (⟨rfl, H, S', st, M3, I3, b3⟩ | ⟨s', x', r', H, S', rfl, st, M3, I3, b3, hx', hr', hi'⟩)
 ·have e3 : NeedPost p N NW NS S Vt i w (.returned (.tuple #[.pointer none, .int .i64 3])) w3:=.inl ⟨rfl, H, S', ST2.out.trans st, M3, I3, b3⟩;have HE:=Lib.hid e3;clear e3 st M3 I3 b3 HN2 ST2;go_wp2_with fail;go_ret2;exact HE.out
 ·have e3 : NeedPost p N NW NS S Vt i w (.returned (.tuple #[.pointer (some ⟨p.sb, s' * 3, none⟩), .int .i64 0])) w3:=.inr ⟨s', x', r', H, S', rfl, ST2.out.trans st, M3, I3, b3, hx', hr', hi'⟩;have HE:=Lib.hid e3;clear e3 st M3 I3 b3 HN2 ST2 hx' hr' hi';go_wp2_with fail;go_ret2;exact HE.out
theorem putW_one (ws : List Int) (j : Nat) (y : Int) (h : j < ws.length) : putW ws j [y] = ws.set j y:=by unfold putW;rw [List.set_eq_take_append_cons_drop, if_pos h];rfl
theorem put_one (p : LmP) (N NW NS b j g : Nat) (S : St) (ws : List Int) (y : Int) (w : World) (h : LmMem w p N NW NS S) (hV : S.V b = some ws) (hj : j < ws.length) (hg : Blk w g 3 #[.int .i64 y]) (hgo : ¬ p.set S.sl g) (hy : 0 <= y /\ y <= 65535) :
  Calls Tryz.prog 174 #[.pointer (some ⟨p.H.h, 0, none⟩), .int .i64 b, .int .i64 j, .slice (some ⟨g, 0, none⟩) 1 1] w fun e w' => e = .returned (.int .i64 0) /\ LmMem w' p N NW NS { S with V:=updV S.V b (some (ws.set j y)) } /\ Only p.H.set w w':=by
 have h1:=heapWrite_any p.H NW S.hc S.V S.t b j ws [y] (some ⟨g, 0, none⟩) 1 w h.heap hV (by simp; omega) (Ints.of_blk (xs:=[y]) hg (by intro v hv; rw [List.mem_singleton.1 hv]; omega)) (by
  intro b' off e hs;injection e with e; injection e with e _;subst e;exact hgo ⟨2, hs⟩) (by intro v hv; rw [List.mem_singleton.1 hv]; exact hy)
 refine h1.mono ?_;rintro e w' ⟨he, hH, hO⟩;rw [putW_one _ _ _ hj] at hH;exact ⟨he, h.toHeap hO p.H S.hc _ S.t hH rfl (fun _ h => .inl h), hO⟩
def LeafPost (p : LmP) (N NW NS : Nat) (S : St) (Vt : List Ob) (s j : Nat) (x : Slt) (r : Res) (ws : List Int) (id : Int) (w : World) (e : Ending) (w' : World) : Prop :=
 (e = .returned (.bool false) /\ LmMem w' p N NW NS S /\ Only (p.set S.sl) w w') \/
 ∃ (t : Nat) (y : Slt) (S1 : St), e = .returned (.bool true) /\ 1 <= t /\ t <= NS /\ Inv NS S1 Vt [2 * (t : Int)] (fun _ => False) (fun _ => False) /\ S1.D = S.D /\ S1.V = S.V /\ S1.busy = S.busy /\ S1.ids.getD t 0 = id /\
  S1.sl[s]? = some y /\ y.res = some r /\ y.id = x.id /\ (∀ k, p.set S1.sl k -> p.set S.sl k) /\ LmMem w' p N NW NS { S1 with V:=updV S1.V r.b (some (ws.set j (2 * (t : Int)))) } /\ Only (p.set S.sl) w w'
theorem leaf_any (p : LmP) (N NW NS s j : Nat) (S : St) (Vt : List Ob) (x : Slt) (r : Res) (ws : List Int) (id : Int) (w : World) (h : LmMem w p N NW NS S) (hI : Inv NS S Vt [] (fun _ => False) (fun _ => False)) (hx : S.sl[s]? = some x) (hr : x.res = some r) (hV : S.V r.b = some ws) (hj : j < ws.length) (hid : 1 <= id /\ id < 1073741824) :
  Calls Tryz.prog 175 #[.pointer (some ⟨p.m, 0, none⟩), .pointer (some ⟨p.sb, s * 3, none⟩), .int .i64 j, .int .i64 id] w (LeafPost p N NW NS S Vt s j x r ws id w):=by
 have hbd:=bind_any true p N NW NS S Vt [] (fun _ => False) (fun _ => False) id w h hI (by simp) hid;have HBD:=Lib.hid hbd;have HM:=Lib.hid h;have HX:=Lib.hid hx;have HR:=Lib.hid hr;have HV:=Lib.hid hV;have HJ:=Lib.hid hj;have HID:=Lib.hid hid;clear hbd h hI hx hr hV hj hid;go_enter Tryz.func175, Tryz.ntmps175;go_wp2_with fail;refine HBD.out.mono ?_;rintro e w1 (⟨rfl, S1, M1, -, -, -, O1, hq⟩ | ⟨t, S1, S2, rfl, t1, t2, M2, I2, -, -, hq, nm, O2⟩)
 ·have e1:=hq rfl;rw [e1] at M1;have e3 : LeafPost p N NW NS S Vt s j x r ws id w (.returned (.bool false)) w1:=.inl ⟨rfl, M1, O1⟩;have HE:=Lib.hid e3;clear e3 M1 O1 hq e1 HBD HM HX HR HV HJ HID;go_wp2_with fail;go_ret;exact HE.out
 ·have e1:=hq rfl;subst e1;obtain ⟨xt, hxt, hsl, hfree⟩:=nm.at_;have hlt:=(List.getElem?_eq_some_iff.1 hxt).1;have hxt2 : S2.sl[t]? = some { xt with id:=id }:=by rw [hsl]; exact List.getElem?_set_self hlt
  have hrb:=refs_bound M2 I2 (by simp) hxt2 t1;obtain ⟨rf, hrf⟩ : ∃ rf, rf = xt.refs:=⟨_, rfl⟩;obtain ⟨-, -, d2⟩:=M2.look hxt2;dsimp only at d2 hrb;rw [<- hrf] at d2 hrb;obtain ⟨hr0, hr1⟩:=hrb;have hrw : IntKind.i64.wrap (rf + 1) = rf + 1:=by rw [IntKind.wrap_i64]; omega
  have f2:=M2.slotf (t * 3 + 2);obtain ⟨-, -, -, -, m4, -⟩:=M2.look2;have M3:=M2.toRefs hxt2 (xt.refs + 1);have I3:=I2.refUp t1 hxt2 (by dsimp only; have:=HID.out; omega);dsimp only at M3 I3;have hs3 : ∃ y, (S2.sl.set t { xt with id:=id, refs:=xt.refs + 1 })[s]? = some y /\ y.res = some r /\ y.id = x.id:=by
   by_cases e : t = s
   ·subst e;have e2:=Option.some.inj (hxt.symm.trans HX.out);refine ⟨_, List.getElem?_set_self (by rw [hsl, length_set]; exact hlt), by rw [e2]; exact HR.out, ?_⟩;dsimp only;rcases hfree with h1 | ⟨_, h1, _⟩
    ·rw [<- h1, e2]
    ·rw [e2, HR.out] at h1; cases h1
   ·rw [List.getElem?_set_ne e, hsl, List.getElem?_set_ne e];exact ⟨x, HX.out, HR.out, rfl⟩
  obtain ⟨y, hy, hyr, hyi⟩:=hs3;obtain ⟨S3, hS3⟩ : ∃ S3 : St, S3 = { S2 with sl:=S2.sl.set t { xt with id:=id, refs:=xt.refs + 1 } }:=⟨_, rfl⟩;rw [<- hS3, <- hrf] at M3;rw [<- hS3] at I3;have hset : ∀ k, p.set S3.sl k -> p.set S1.sl k:=fun k hk => nm.set p k (part_sub (sl:=S2.sl) (sl':=S3.sl) (fun s2 r2 h2 => by rw [hS3] at h2;rw [<- resOf_same (x':={ xt with id:=id, refs:=xt.refs + 1 }) hxt2 rfl s2];exact h2) p k hk)
  have y3 : S3.sl[s]? = some y:=by rw [hS3]; exact hy
  have v3 : S3.V r.b = some ws:=by rw [hS3]; show S2.V r.b = _; rw [nm.V]; exact HV.out
  have i3 : S3.ids.getD t 0 = id:=by
   rw [hS3];show S2.ids.getD t 0 = id
   rw [nm.ids, getD_set_self];rw [HM.out.lenI];omega
  have a3 : S3.D = S1.D /\ S3.V = S1.V /\ S3.busy = S1.busy:=by rw [hS3]; exact ⟨nm.D, nm.V, nm.busy⟩
  have o3:=O2.setCell (p:=⟨p.sb, t * 3 + 2, none⟩) (.inl ⟨5, rfl⟩) (.int .i64 (rf + 1));have HM3:=Lib.hid M3;have HI3:=Lib.hid I3;have HS:=Lib.hid hset;have Y3:=Lib.hid y3;have YR:=Lib.hid hyr;have YI:=Lib.hid hyi;have V3:=Lib.hid v3;have HI4:=Lib.hid i3;have A3:=Lib.hid a3;have O3:=Lib.hid o3;have htN : t < NS + 1:=by omega
  clear M3 I3 hset y3 hyr hyi v3 i3 a3 o3 hS3 hy hq nm hxt hsl hfree hlt hxt2 hrf M2 I2 O2 HBD HX HR HV HID;go_upto_region 4 with (fail);generalize w1.setCell ⟨p.sb, t * 3 + 2, none⟩ (.int .i64 (rf + 1)) = W at HM3 O3 ⊢;clear d2 f2 m4 hrw;obtain ⟨-, m1, -, -, -, -⟩:=HM3.out.look2;obtain ⟨d0, -, -⟩:=HM3.out.look Y3.out;rw [YR.out, Option.map_some] at d0;obtain ⟨r0, -, -, -, -⟩:=HM3.out.res Y3.out YR.out;have hal:=(Below.refl W.heap.size W).alloc (Nat.le_refl _) (.cells #[.int .i64 (2 * (t : Int))] 3);have hput:=put_one p N NW NS r.b j W.heap.size S3 ws (2 * (t : Int)) _ (HM3.out.below hal).drew V3.out HJ.out (Blk.new W 3 _).drew (fun hs => by have:=HM3.out.lt _ hs; omega) (by have:=HM.out.small; omega);have PUT:=Lib.hid hput;have OW:=Lib.hid (((O3.out).alloc (.cells #[.int .i64 (2 * (t : Int))] 3)).trans (only_drew _ _));have hNS:=HM.out.small;have hw2 : IntKind.i64.wrap (2 * (t : Int)) = 2 * (t : Int):=by rw [IntKind.wrap_i64]; omega
  clear hput hal O3;go_region_held3 (fun w' => w'.cell? ⟨p.m, 1, none⟩ = some (.pointer (some ⟨p.H.h, 0, none⟩)) /\ w'.cell? ⟨p.sb, s * 3, none⟩ = some (.pointer (some ⟨r.a, 0, none⟩)) /\ w'.cell? ⟨r.a, 0, none⟩ = some (.int .i64 (r.b : Int)))
   (first | exact ⟨k1, k2, k3⟩ | go_keep)
   (first | (go_at_call 174; refine PUT.out.mono ?_; rintro e w2 ⟨rfl, M4, O4⟩; have HM4:=Lib.hid M4; obtain ⟨-, k1, -, -, -, -⟩:=M4.look2; obtain ⟨k2, -, -⟩:=M4.look Y3.out; rw [YR.out, Option.map_some] at k2; obtain ⟨k3, -, -, -, -⟩:=M4.res Y3.out YR.out))
  have hs4 : ∀ k, p.H.set k -> p.set S1.sl k:=fun k hk => HS.out k ⟨2, hk⟩;have e3 : LeafPost p N NW NS S1 Vt s j x r ws id w (.returned (.bool true)) w2 :=
   .inr ⟨t, y, S3, rfl, t1, t2, HI3.out, A3.out.1, A3.out.2.1, A3.out.2.2, HI4.out, Y3.out, YR.out, YI.out, HS.out, HM4.out, OW.out.trans (O4.mono hs4)⟩
  have HE:=Lib.hid e3;clear e3 hs4 O4 M4 HM4 OW PUT k1 k2 k3 m1 d0 r0;go_wp2_with fail;go_ret;exact HE.out
end Go.Proofs.YtgaemfghpibeeaaGreatDoor
namespace Go.Proofs.YtgaemfghpibeeaaGreatDoor
open Go.RowKit
def setW (v : Ob) (j : Nat) (u : Int) : Ob:=⟨v.cls, v.kind, v.ws.set j u, v.bs⟩
def setB (v : Ob) (j : Nat) (u : Int) : Ob:=⟨v.cls, v.kind, v.ws, v.bs.set j u⟩
theorem checkM_setW {v : Ob} (h : checkM v = true) (hk : v.kind = 1) (j : Nat) {u : Int} (hu : refM u = true) : checkM (setW v j u) = true:=by
 obtain ⟨h1, h2⟩:=checkM_parts h;refine checkM_mk h1 ?_;rcases h2 with ⟨a1, a2, a3, a4⟩ | ⟨a1, _, _⟩
 ·refine .inl ⟨a1, a2, by show (v.ws.set j u).length <= 1000; rw [length_set]; exact a3, fun x hx => ?_⟩;rcases List.mem_or_eq_of_mem_set hx with h | h
  ·exact a4 x h
  ·rw [h]; exact hu
 ·omega
theorem checkM_setB {v : Ob} (h : checkM v = true) (hk : v.kind = 2) (j : Nat) (u : Int) : checkM (setB v j u) = true:=by
 obtain ⟨h1, h2⟩:=checkM_parts h;refine checkM_mk h1 ?_;rcases h2 with ⟨a1, _, _, _⟩ | ⟨a1, a2, a3⟩
 ·omega
 ·exact .inr ⟨a1, a2, by show (v.bs.set j u).length <= 1000; rw [length_set]; exact a3⟩
theorem size1 {v : Ob} (h : v.kind = 1) : sizeM v = v.ws.length:=by rw [sizeM, if_pos h]
theorem size2 {v : Ob} (h : v.kind = 2) : sizeM v = v.bs.length:=by rw [sizeM, if_neg (by omega), if_pos h]
theorem cnt_turn (ws : List Int) (j : Nat) (y : Int) (hj : j < ws.length) (s : Nat) (ext : List Int) (h : ext.count (2 * (s : Int)) = if y = 2 * (s : Int) then 1 else 0) :
  (ws.set j y).count (2 * (s : Int)) + [ws.getD j 0].count (2 * (s : Int)) = ws.count (2 * (s : Int)) + ext.count (2 * (s : Int)):=by
 have h1:=count_set ws j y (2 * (s : Int)) hj;have h2 : [ws.getD j 0].count (2 * (s : Int)) = if ws.getD j 0 = 2 * (s : Int) then 1 else 0:=by rw [List.count_singleton];simp only [beq_iff_eq]
 omega
section
variable {NS : Nat} {S : St} {Vt : List Ob} {ext : List Int} {ex pend : Nat -> Prop}
theorem Inv.have_ (h : Inv NS S Vt ext ex pend) {s i : Nat} {x : Slt} {r : Res} {v : Ob} (hx : S.sl[s]? = some x) (hr : x.res = some r) (hid : x.id = (i : Int) + 1) (hv : Vt[i]? = some v) :
  ∃ o ws, S.D[i]? = some o /\ r.kind = o.kind /\ r.size = sizeM o /\ S.V r.b = some ws /\ ws.length = lenW o.kind (sizeM o) /\ Means S.ids ws o v /\ (r.dirty = false -> v = o) /\ (o.kind = 1 -> ∀ y ∈ ws, okN NS y):=by
 obtain ⟨i2, o, u, ws, k1, k2, k3, k4⟩:=h.here s x r hx hr;have ei : i2 = i:=by have:=k1.symm.trans hid; omega
 subst ei;obtain rfl:=Option.some.inj (k3.symm.trans hv);exact ⟨o, ws, k2, k4⟩
theorem Inv.setWord (h : Inv NS S Vt ext ex pend) {s i j : Nat} {x : Slt} {r : Res} {v : Ob} {y u : Int} {ws : List Int} (hx : S.sl[s]? = some x) (hr : x.res = some r) (hid : x.id = (i : Int) + 1) (hv : Vt[i]? = some v) (hV : S.V r.b = some ws) (hk : v.kind = 1) (hj : j < v.ws.length)
  (hu : refM u = true) (hy : okN NS y) (hm : ∀ th, meantM S.ids y th = u) (hdi : ∀ s s', S.ids.getD s 0 = S.ids.getD s' 0 -> S.ids.getD s 0 ≠ 0 -> s = s') (hext : ∀ s : Nat, 1 <= s -> s <= NS -> ext.count (2 * (s : Int)) = if y = 2 * (s : Int) then 1 else 0) :
  Inv NS { S with V:=updV S.V r.b (some (ws.set j y)), sl:=S.sl.set s { x with res:=some { r with dirty:=true } } } (Vt.set i (setW v j u)) [ws.getD j 0] ex pend:=by
 obtain ⟨o, ws2, k2, k4, k5, k6, k7, k8, k9, k10⟩:=h.have_ hx hr hid hv;obtain rfl : ws2 = ws:=Option.some.inj (k6.symm.trans hV);have hko : o.kind = 1:=k8.kind.symm.trans hk;have hlw : ws2.length = o.ws.length:=by rw [k7, lenW, if_neg (by omega), size1 hko]
 have hjo : j < o.ws.length:=by rw [<- k8.lw]; exact hj
 have hgood:=h.good v (mem_of_getElem? hv);have hrk : r.kind = 1:=k4.trans hko;have ht:=h.turn (ws':=ws2.set j y) (o':=o) (v':=setW v j u) (ext':=[ws2.getD j 0]) hx hr hid k2 hv true k6 k4 k5 rfl rfl length_set k7
  (k8.setW hko j y u hjo hlw rfl rfl rfl rfl (fun _ _ => rfl) (hm _)) (fun e => by cases e)
  (fun _ z hz => by
   rcases List.mem_or_eq_of_mem_set hz with h1 | h1
   ·exact k10 hko z h1
   ·rw [h1]; exact hy)
  (checkM_setW hgood hk j hu)
  (fun s2 h1 h2 => by rw [if_pos hrk, if_pos hrk];exact cnt_turn ws2 j y (by omega) s2 ext (hext s2 h1 h2))
  (fun z hz => by rw [List.mem_singleton.1 hz]; exact k10 hko _ (getD_mem (by omega))) hdi
 have e : S.D.set i o = S.D:=set_same k2;rw [e] at ht;exact ht
theorem Inv.setFar (h : Inv NS S Vt [] ex pend) {s i j : Nat} {x : Slt} {r : Res} {v o : Ob} {u : Int} {ws : List Int} (hx : S.sl[s]? = some x) (hr : x.res = some r) (hid : x.id = (i : Int) + 1) (hv : Vt[i]? = some v) (hV : S.V r.b = some ws) (ho : S.D[i]? = some o) (hk : v.kind = 1) (hj : j < v.ws.length)
  (hu : refM u = true) (hdi : ∀ s s', S.ids.getD s 0 = S.ids.getD s' 0 -> S.ids.getD s 0 ≠ 0 -> s = s') :
  Inv NS { S with D:=S.D.set i (setW o j u), V:=updV S.V r.b (some (ws.set j 65534)) } (Vt.set i (setW v j u)) [ws.getD j 0] ex pend:=by
 obtain ⟨o2, ws2, k2, k4, k5, k6, k7, k8, k9, k10⟩:=h.have_ hx hr hid hv;obtain rfl : ws2 = ws:=Option.some.inj (k6.symm.trans hV);obtain rfl : o2 = o:=Option.some.inj (k2.symm.trans ho);have hko : o2.kind = 1:=k8.kind.symm.trans hk;have hlw : ws2.length = o2.ws.length:=by rw [k7, lenW, if_neg (by omega), size1 hko]
 have hjo : j < o2.ws.length:=by rw [<- k8.lw]; exact hj
 have hgood:=h.good v (mem_of_getElem? hv);have hrk : r.kind = 1:=k4.trans hko;have hsz : sizeM (setW o2 j u) = sizeM o2:=by unfold sizeM setW; simp only [length_set]
 have ht:=h.turn (ws':=ws2.set j 65534) (o':=setW o2 j u) (v':=setW v j u) (ext':=[ws2.getD j 0]) hx hr hid k2 hv r.dirty k6 k4 k5 rfl hsz length_set k7
  (k8.setW hko j 65534 u hjo hlw rfl rfl (by simp [setW]) rfl (fun q hq => by show (o2.ws.set j u).getD q 0 = _; rw [getD_set_ne (Ne.symm hq)]) (by
   show meantM S.ids 65534 ((o2.ws.set j u).getD j 0) = u
   rw [getD_set_self hjo];simp [meantM, widM])) (fun e => by rw [k9 e])
  (fun _ z hz => by
   rcases List.mem_or_eq_of_mem_set hz with h1 | h1
   ·exact k10 hko z h1
   ·rw [h1]; exact .inr (.inl rfl))
  (checkM_setW hgood hk j hu)
  (fun s2 h1 h2 => by rw [if_pos hrk, if_pos hrk];exact cnt_turn ws2 j 65534 (by omega) s2 [] (by have:=h.small; rw [if_neg (by omega)]; rfl))
  (fun z hz => by rw [List.mem_singleton.1 hz]; exact k10 hko _ (getD_mem (by omega))) hdi
 have e : S.sl.set s { x with res:=some { r with dirty:=r.dirty } } = S.sl:=set_same (by rw [hx]; cases x; simp only at hr; rw [hr]);rw [e] at ht;exact ht
theorem Inv.setByt (h : Inv NS S Vt [] ex pend) {s i j : Nat} {x : Slt} {r : Res} {v : Ob} {y u : Int} {ws : List Int} (hx : S.sl[s]? = some x) (hr : x.res = some r) (hid : x.id = (i : Int) + 1) (hv : Vt[i]? = some v) (hV : S.V r.b = some ws) (hk : v.kind = 2) (hj : j < v.bs.length)
  (hu : byteM y j = u) (hoth : ∀ q, q ≠ j -> q / 2 = j / 2 -> byteM y q = byteM (ws.getD (j / 2) 0) q) (hdi : ∀ s s', S.ids.getD s 0 = S.ids.getD s' 0 -> S.ids.getD s 0 ≠ 0 -> s = s') :
  Inv NS { S with V:=updV S.V r.b (some (ws.set (j / 2) y)), sl:=S.sl.set s { x with res:=some { r with dirty:=true } } } (Vt.set i (setB v j u)) [] ex pend:=by
 obtain ⟨o, ws2, k2, k4, k5, k6, k7, k8, k9, k10⟩:=h.have_ hx hr hid hv;obtain rfl : ws2 = ws:=Option.some.inj (k6.symm.trans hV);have hko : o.kind = 2:=k8.kind.symm.trans hk;have hlw : ws2.length = (o.bs.length + 1) / 2:=by rw [k7, lenW, if_pos hko, size2 hko]
 have hjo : j < o.bs.length:=by rw [<- k8.lb]; exact hj
 have hgood:=h.good v (mem_of_getElem? hv);have hrk : ¬ r.kind = 1:=by rw [k4]; omega
 have ht:=h.turn (ws':=ws2.set (j / 2) y) (o':=o) (v':=setB v j u) (ext':=[]) hx hr hid k2 hv true k6 k4 k5 rfl rfl length_set k7
  (k8.setB hko j y u hjo hlw hu hoth) (fun e => by cases e)
  (fun e => by omega)
  (checkM_setB hgood hk j u)
  (fun s2 _ _ => by rw [if_neg hrk, if_neg hrk]) (fun z hz => by cases hz) hdi
 have e : S.D.set i o = S.D:=set_same k2;rw [e] at ht;exact ht
end
end Go.Proofs.YtgaemfghpibeeaaGreatDoor
namespace Go.Proofs.YtgaemfghpibeeaaGreatDoor
open Go.RowKit
def SetPost (p : LmP) (N NW NS : Nat) (S : St) (Vt : List Ob) (i : Nat) (v' : Ob) (w : World) (e : Ending) (w' : World) : Prop :=
 (e = .returned (.int .i64 3) /\ ∃ (H : HpP) (S' : St), Step p S w { p with H:=H } S' w' /\ LmMem w' { p with H:=H } N NW NS S' /\ Inv NS S' Vt [] (fun _ => False) (fun _ => False) /\ S'.busy = 0) \/
 (e = .returned (.int .i64 0) /\ ∃ (H : HpP) (S' : St), Step p S w { p with H:=H } S' w' /\ LmMem w' { p with H:=H } N NW NS S' /\ Inv NS S' (Vt.set i v') [] (fun _ => False) (fun _ => False) /\ S'.busy = 0)
theorem set_tail {p P : LmP} {N NW NS i : Nat} {S S4 : St} {Vt : List Ob} {v' : Ob} {old : Int} {w W : World} (H : HpP) (hP : P = { p with H:=H }) (hM : LmMem W P N NW NS S4) (hI : Inv NS S4 (Vt.set i v') [old] (fun _ => False) (fun _ => False)) (st : Step p S w P S4 W) (hb : S4.busy = 0) :
  Calls Tryz.prog 177 #[.pointer (some ⟨p.m, 0, none⟩), .int .i64 old] W fun e w' => e = .returned (.tuple #[]) /\ SetPost p N NW NS S Vt i v' w (.returned (.int .i64 0)) w':=by
 have h1:=unref_any P N NW NS old S4 (Vt.set i v') [] (fun _ => False) (fun _ => False) W hM hI (by simp);have hpm : P.m = p.m:=by rw [hP]
 rw [hpm] at h1;refine h1.mono ?_;rintro e w' ⟨he, S', M', I', C', O'⟩;refine ⟨he, .inr ⟨rfl, H, S', ?_, ?_, I', C'.busy.trans hb⟩⟩
 ·rw [<- hP];exact st.trans (Step.of (fun k hk => C'.set P k hk) O')
 ·rw [<- hP];exact M'
theorem dirty_set {sl : List Slt} {s : Nat} {x : Slt} {r : Res} {b : Bool} (hx : sl[s]? = some x) (hr : x.res = some r) (p : LmP) : ∀ k, p.set (sl.set s { x with res:=some { r with dirty:=b } }) k -> p.set sl k:=by
 intro k hk;rcases set_here hx p k hk with h1 | h1
 ·exact h1
 ·exact ⟨s + 6, r, (resOf_of hx).trans hr, h1⟩
theorem set_any (p : LmP) (N NW NS i j : Nat) (S : St) (Vt : List Ob) (v : Ob) (u : Int) (w : World) (h : LmMem w p N NW NS S) (hI : Inv NS S Vt [] (fun _ => False) (fun _ => False)) (hbusy : S.busy = 0) (hv : Vt[i]? = some v) (hsm : i < 1073741823) (hk : v.kind = 1) (hj : j < v.ws.length) (hu : refM u = true) :
  Calls Tryz.prog 163 #[.pointer (some ⟨p.m, 0, none⟩), .int .i64 (2 * ((i : Int) + 1)), .int .i64 j, .int .i64 u] w (SetPost p N NW NS S Vt i (setW v j u) w):=by
 have hpl:=place_any p N NW NS i j S Vt v w h hI hbusy hv hsm (by rw [size1 hk]; exact hj);rw [hk] at hpl;have hrf:=fun W => fref_any u W;rw [hu] at hrf;have HPL:=Lib.hid hpl;have HRF:=Lib.hid hrf;have HV:=Lib.hid hv;have HK:=Lib.hid hk;have HJ:=Lib.hid hj;have HU:=Lib.hid hu;clear hpl hrf hv hk hj hu h hI hbusy;go_enter Tryz.func163, Tryz.ntmps163;go_wp2_with fail;refine HPL.out.mono ?_;rintro e w2 (⟨rfl, H, S2, st, M2, I2, b2⟩ | ⟨s, x, r, H, S2, rfl, st, M2, I2, b2, hx, hr, hi⟩)
 ·have e3 : SetPost p N NW NS S Vt i (setW v j u) w (.returned (.int .i64 3)) w2:=.inl ⟨rfl, H, S2, st, M2, I2, b2⟩;have HE:=Lib.hid e3;clear e3 st M2 I2 b2 HPL HV HK HJ HU;go_wp2_with fail;refine (HRF.out _).mono ?_;rintro e w3 ⟨rfl, rfl⟩;go_wp2_with fail;go_ret;exact HE.out
 ·obtain ⟨P, hP⟩ : ∃ P : LmP, P = { p with H:=H }:=⟨_, rfl⟩;rw [<- hP] at st M2;have hpm : P.m = p.m:=by rw [hP]
  have hpsb : P.sb = p.sb:=by rw [hP]
  obtain ⟨o, ws, k2, k4, k5, k6, k7, k8, k9, k10⟩:=I2.have_ hx hr hi HV.out;have hko : o.kind = 1:=k8.kind.symm.trans HK.out;have hjo : j < o.ws.length:=by rw [<- k8.lw]; exact HJ.out
  have hlw : ws.length = o.ws.length:=by rw [k7, lenW, if_neg (by omega), size1 hko]
  obtain ⟨old, hold⟩ : ∃ old, old = ws.getD j 0:=⟨_, rfl⟩;have hrd:=fun (k : Nat) => Lib.hid (heapRead_any P.H NW S2.hc S2.V S2.t r.b j ws (w2.drewN k) (M2.drewN k).heap k6 (by omega));rw [<- hold] at hrd;obtain ⟨-, m1, -, -, -, -⟩:=M2.look2;obtain ⟨d0, -, -⟩:=M2.look hx;rw [hr, Option.map_some] at d0;obtain ⟨r0, -, -, -, -⟩:=M2.res hx hr;rw [hpm] at m1;rw [hpsb] at d0;have HRD:=Lib.hid hrd;have HM2:=Lib.hid M2;have HI2:=Lib.hid I2;have ST2:=Lib.hid st;have HB2:=Lib.hid b2;have HX:=Lib.hid hx;have HR:=Lib.hid hr;have HI:=Lib.hid hi;have K2:=Lib.hid k2;have K6:=Lib.hid k6;have K8:=Lib.hid k8;have HKO:=Lib.hid hko;have HJO:=Lib.hid hjo;have HLW:=Lib.hid hlw;have HOLD:=Lib.hid hold;have HPP:=Lib.hid hP;clear hrd M2 I2 st b2 hx hr hi k2 k4 k5 k6 k7 k8 k9 k10 hko hjo hlw hold hP HPL;go_wp2_with fail;refine (HRF.out _).mono ?_;rintro e w3 ⟨rfl, rfl⟩;go_wp2_with fail;go_quiet ((go_at_call 30; exact Calls.quiet_of (HRD.out _).out))
  have HM3:=Lib.hid (HM2.out.drewN nq);have ST3:=Lib.hid (ST2.out.trans (Step.of (S':=S2) (fun k h => h) ((Only.refl _ w2).drewN nq)));clear HRD HM2 ST2 m1 d0 r0 HRF;generalize w2.drewN nq = W at HM3 ST3 ⊢;have hnr:=narrow_any u W;have hnm:=named_any u W;obtain ⟨q, hq⟩ : ∃ q, q = nrwM u:=⟨_, rfl⟩;obtain ⟨q2, hq2⟩ : ∃ q, q = namM u:=⟨_, rfl⟩;rw [<- hq] at hnr;rw [<- hq2] at hnm;obtain ⟨y, okn⟩:=q;obtain ⟨id, okm⟩:=q2;have HNR:=Lib.hid hnr;have HNM:=Lib.hid hnm;have HQ:=Lib.hid hq;have HQ2:=Lib.hid hq2;clear hnr hnm hq hq2;cases okn with
  | true =>
   go_wp2_with fail;refine HNR.out.mono ?_;rintro e w4 ⟨rfl, rfl⟩;go_wp2_with fail;refine HNM.out.mono ?_;rintro e w4 ⟨rfl, rfl⟩;go_upto_region 16 with (fail);clear HNR HNM HQ2;have hnk:=nrwM_ok (v:=u) (by rw [<- HQ.out]);rw [<- HQ.out] at hnk;obtain ⟨y0, y1, y2, y3⟩:=hnk;obtain ⟨-, m1, -, -, -, -⟩:=HM3.out.look2;obtain ⟨d0, -, -⟩:=HM3.out.look HX.out;rw [HR.out, Option.map_some] at d0;obtain ⟨r0, -, -, -, -⟩:=HM3.out.res HX.out HR.out;rw [hpm] at m1;rw [hpsb] at d0;have hal:=(Below.refl W.heap.size W).alloc (Nat.le_refl _) (.cells #[.int .i64 y] 3);have hput:=put_one P N NW NS r.b j W.heap.size S2 ws y _ (HM3.out.below hal).drew K6.out (by have:=HLW.out; have:=HJO.out; omega) (Blk.new W 3 _).drew (fun hs => by have:=HM3.out.lt _ hs; omega) ⟨y0, y1⟩;have PUT:=Lib.hid hput;have OW:=Lib.hid (ST3.out.trans (Step.of (S':=S2) (fun k h => h) (((Only.refl _ W).alloc (.cells #[.int .i64 y] 3)).trans (only_drew _ _))));clear hput hal ST3;go_region_held3 (fun w' => w'.cell? ⟨p.m, 1, none⟩ = some (.pointer (some ⟨P.H.h, 0, none⟩)) /\ w'.cell? ⟨p.sb, s * 3, none⟩ = some (.pointer (some ⟨r.a, 0, none⟩)) /\ w'.cell? ⟨r.a, 0, none⟩ = some (.int .i64 (r.b : Int)))
    (first | exact ⟨k1, k2, k3⟩ | go_keep)
    (first | (go_at_call 174; refine PUT.out.mono ?_; rintro e w5 ⟨rfl, M4, O4⟩; have HM4:=Lib.hid M4; obtain ⟨-, k1, -, -, -, -⟩:=M4.look2; obtain ⟨k2, -, -⟩:=M4.look HX.out; rw [HR.out, Option.map_some] at k2; obtain ⟨k3, -, -, f3, ff⟩:=M4.res HX.out HR.out; rw [hpm] at k1; rw [hpsb] at k2))
   have hset : ∀ k, P.H.set k -> P.set S2.sl k:=fun k hk => ⟨2, hk⟩;have M6:=HM4.out.toDirty HX.out HR.out true;have f4:=ff 3;have hres:=(resOf_of HX.out).trans HR.out;have I6:=HI2.out.setWord (y:=y) (u:=u) HX.out HR.out HI.out HV.out K6.out HK.out HJ.out HU.out (.inl ⟨y0, y1, y2⟩) (fun th => by unfold meantM; rw [y3, if_pos rfl]) HM3.out.dist (fun s2 _ _ => by rw [if_neg (by omega)]; rfl);rw [<- HOLD.out] at I6;have st6:=OW.out.trans ((Step.of (S:=S2) (S':={ S2 with V:=updV S2.V r.b (some (ws.set j y)) }) (fun k h => h) (O4.mono hset)).trans (Step.of (S':={ S2 with V:=updV S2.V r.b (some (ws.set j y)), sl:=S2.sl.set s { x with res:=some { r with dirty:=true } } }) (fun k hk => dirty_set HX.out HR.out P k hk) ((Only.refl _ w5).setCell (p:=⟨r.a, 3, none⟩) (.inl ⟨s + 6, r, hres, rfl⟩) (.bool true))));have htl:=set_tail H HPP.out M6 I6 st6 HB2.out;have HTL:=Lib.hid htl;clear htl st6 I6 M6 hres hset O4 M4 HM4 OW PUT k1 k3 m1 d0 r0 ff HM3 HI2;go_wp2_with fail;refine HTL.out.mono ?_;rintro e w7 ⟨rfl, hE⟩;have HE:=Lib.hid hE;clear hE HTL;go_wp2_with fail;go_ret;exact HE.out
  | false =>
   go_upto_region 18 with (first | (go_at_call 173; refine HNR.out.mono ?_; rintro e w4 ⟨rfl, rfl⟩) | (go_at_call 46; refine HNM.out.mono ?_; rintro e w4 ⟨rfl, rfl⟩))
   go_cut [133] from 134 to 141 (fun s133 wx => (s133 = .bool false /\ Aside (LmMem wx P N NW NS S2 /\ Step p S w P S2 wx)) \/ (s133 = .bool true /\ Aside (∃ (t : Nat) (yy : Slt) (S1 : St), okm = true /\ 1 <= t /\ t <= NS /\ Inv NS S1 Vt [2 * (t : Int)] (fun _ => False) (fun _ => False) /\ S1.D = S2.D /\ S1.V = S2.V /\ S1.busy = S2.busy /\ S1.ids.getD t 0 = id /\
    S1.sl[s]? = some yy /\ yy.res = some r /\ yy.id = x.id /\ LmMem wx P N NW NS { S1 with V:=updV S1.V r.b (some (ws.set j (2 * (t : Int)))) } /\ Step p S w P { S1 with V:=updV S1.V r.b (some (ws.set j (2 * (t : Int)))) } wx)))
   case first =>
    cases okm with
    | false => clear HNR HNM;go_wp2_with fail;go_meet;exact .inl ⟨rfl, HM3.out, ST3.out⟩
    | true =>
     have hid : 1 <= id /\ id < 1073741824:=by
      have h1:=HQ2.out;unfold namM at h1;split at h1
      ·cases h1
      ·injection h1 with h1 _;omega
     have hlf:=leaf_any P N NW NS s j S2 Vt x r ws id W HM3.out HI2.out HX.out HR.out K6.out (by have:=HLW.out; have:=HJO.out; omega) hid;rw [hpm, hpsb] at hlf;have HLF:=Lib.hid hlf;clear hlf hid HNR HNM;go_wp2_with fail;refine HLF.out.mono ?_;rintro e w5 (⟨rfl, M5, O5⟩ | ⟨t, yy, S1, rfl, t1, t2, I5, a1, a2, a3, a4, a5, a6, a7, a8, M5, O5⟩)
     ·have f5 : Aside (LmMem w5 P N NW NS S2 /\ Step p S w P S2 w5):=⟨M5, ST3.out.trans (Step.of (S:=S2) (S':=S2) (fun k h => h) O5)⟩;clear M5 O5 HLF;go_wp2_with fail;go_meet;exact .inl ⟨rfl, f5⟩
     ·have st5:=ST3.out.trans (Step.of (S:=S2) (S':={ S1 with V:=updV S1.V r.b (some (ws.set j (2 * (t : Int)))) }) (fun k h => a8 k h) O5);have f5 : Aside (∃ (t : Nat) (yy : Slt) (S1 : St), true = true /\ 1 <= t /\ t <= NS /\ Inv NS S1 Vt [2 * (t : Int)] (fun _ => False) (fun _ => False) /\ S1.D = S2.D /\ S1.V = S2.V /\ S1.busy = S2.busy /\ S1.ids.getD t 0 = id /\
       S1.sl[s]? = some yy /\ yy.res = some r /\ yy.id = x.id /\ LmMem w5 P N NW NS { S1 with V:=updV S1.V r.b (some (ws.set j (2 * (t : Int)))) } /\ Step p S w P { S1 with V:=updV S1.V r.b (some (ws.set j (2 * (t : Int)))) } w5):=⟨t, yy, S1, rfl, t1, t2, I5, a1, a2, a3, a4, a5, a6, a7, M5, st5⟩
      clear st5 M5 O5 HLF I5 a1 a2 a3 a4 a5 a6 a7 a8 t1 t2;go_wp2_with fail;go_meet;exact .inr ⟨rfl, f5⟩
   rcases hcut with ⟨rfl, hc⟩ | ⟨rfl, hc⟩
   ·obtain ⟨M5, st5⟩:=hc.out;clear hc HM3 ST3 HNR HNM HQ2;have hok:=M5.disk.ok o (mem_of_getElem? K2.out);have hbv:=M5.disk.vals K2.out;have hF:=fun (W0 : World) (hW : SecAt W0 P.Q N S2.D) => fetch_ok P.Q N S2.D i o W0 hW K2.out;have hparts:=fun (W0 W' : World) (vv : Value) (hF : FreshO o W0 vv W') => hF.parts hok hbv;unfold obV at hparts;obtain ⟨m0, -, -, -, -, -⟩:=M5.look2;obtain ⟨-, d1, -⟩:=M5.look HX.out;rw [hpm] at m0;rw [hpsb, HI.out] at d1;have HF:=Lib.hid hF;have HPA:=Lib.hid hparts;have HOK:=Lib.hid hok;have HM5:=Lib.hid M5;have ST5:=Lib.hid st5;clear hok hbv hF hparts M5 st5 W;generalize wc = W5 at HM5 ST5 m0 d1 ⊢;go_upto_region 11 with (fail);go_cut [17, 18] from 69 to 80 (fun s17 _ wx => ∃ (ob : Nat) (A : Option Addr) (ca : Nat) (B : Option Addr) (cb : Nat), s17 = .pointer (some ⟨ob, 0, none⟩) /\ Aside (Took P N NW NS S2 o W5 wx ob A ca B cb))
    case first =>
     have hb0:=(Below.refl W5.heap.size W5).alloc (Nat.le_refl _) (.cells zeroO 29);have ha:=HM5.out.drew;have hb:=(HM5.out.below hb0).drew;have hfa:=Lib.hid (HF.out W5.drew ha.disk);have hfb:=Lib.hid (HF.out (W5.alloc (.cells zeroO 29)).drew hb.disk);have HA:=Lib.hid ha;have HB:=Lib.hid hb;have hsbl:=HM5.out.slots.lt;have hml:=HM5.out.head.lt;have hdl:=HM5.out.disk.lt P.Q.P.d (.inr (.inr (.inr (.inl rfl))));rw [hpsb] at hsbl;rw [hpm] at hml;have nA:=(Blk.new W5 29 zeroO).drew;unfold zeroO at *;clear ha hb hb0;go_region_held3 (fun w' => w'.cell? ⟨p.m, 0, none⟩ = some (.pointer (some ⟨P.Q.q, 0, none⟩)) /\ w'.cell? ⟨p.sb, s * 3 + 1, none⟩ = some (.int .i64 ((i : Int) + 1)))
      (first | exact ⟨hm2, hd2⟩ | go_keep | exact Keep2.only (by assumption) (only_four w2 W5.heap.size _ _ _ _) ⟨by dsimp only; omega, by dsimp only; omega⟩ ⟨by dsimp only; omega, by dsimp only; omega⟩)
      (first | (go_at_call 34; refine hfa.out.mono ?_; rintro e w2 ⟨y, rfl, hF, hS, hO⟩; obtain ⟨A, ca, B, cb, rfl, hR, hoI, hoB, hk1, hk2⟩:=HPA.out _ _ y hF; have h2:=Lib.hid (HA.out.taken hS hO); have hm2:=h2.out.look2.1; rw [hpm] at hm2; have hd2 : w2.cell? ⟨p.sb, s * 3 + 1, none⟩ = some (.int .i64 ((i : Int) + 1)):=(by have h3:=(h2.out.look HX.out).2.1; rw [hpsb, HI.out] at h3; exact h3)) | (go_at_call 34; refine hfb.out.mono ?_; rintro e w2 ⟨y, rfl, hF, hS, hO⟩; obtain ⟨A, ca, B, cb, rfl, hR, hoI, hoB, hk1, hk2⟩:=HPA.out _ _ y hF; have h2:=Lib.hid (HB.out.taken hS hO); have hm2:=h2.out.look2.1; rw [hpm] at hm2; have hd2 : w2.cell? ⟨p.sb, s * 3 + 1, none⟩ = some (.int .i64 ((i : Int) + 1)):=(by have h3:=(h2.out.look HX.out).2.1; rw [hpsb, HI.out] at h3; exact h3); have nA2:=nA.only hO (by omega); have n0:=nA2.cell 0; have n1:=nA2.cell 1; have n2:=nA2.cell 2; have n3:=nA2.cell 3; simp only [qTa, qTb, qTc] at n0 n1 n2 n3; have nf:=nA2.frozen; have hz2 : W5.heap.size + 1 <= w2.heap.size:=(by have:=hO.size; simpa using this)))
     ·go_wp2_with fail;go_meet;exact ⟨_, A, ca, B, cb, rfl, took_a hR (by simpa using hoI) (by simpa using hoB) hk1 hk2 h2.out hO⟩
     ·go_wp2_with fail;go_meet;exact ⟨_, A, ca, B, cb, rfl, took_b nA2 hR (by simpa using hoI) (by simpa using hoB) hk1 hk2 HM5.out h2.out hO⟩
    obtain ⟨ob, A, ca, B, cb, rfl, hT⟩:=hcut;have T:=hT.out;clear hT HF HPA m0 d1;obtain ⟨n1, hn1⟩ : ∃ n, n = o.ws.length:=⟨_, rfl⟩;obtain ⟨n2, hn2⟩ : ∃ n, n = o.bs.length:=⟨_, rfl⟩;have hjn : (j : Int) < n1:=by have:=HJO.out; omega
    obtain ⟨ga, cur, hA, hgB, -, hgb, -⟩:=T.ints.open_ (by have:=HJO.out; omega);subst hA;have hga:=T.offA _ rfl;dsimp only at hga;obtain ⟨-, q2, q3, q4, q5⟩:=T.ints.at_ (i:=j) HJO.out;have hblk:=T.blk;unfold obV at hblk;rw [<- hn1, <- hn2] at hblk;have b2:=hblk.cell 2;simp only [qTa, qTb, qTc] at b2;have hoT : Only (fun k => k = ga) wc (wc.setCell ⟨ga, j, none⟩ (.int .i64 u)):=(Only.refl (fun k => k = ga) wc).setCell (p:=⟨ga, j, none⟩) (.inl rfl) _;have MV:=T.mem.only hoT (fun k hk e => by have:=HM5.out.lt k hk; omega);have blkV:=hblk.far (p:=⟨ga, j, none⟩) (Ne.symm hga) (.int .i64 u);have intsV:=q5 u;have bytsV:=T.byts.off_none (T.nB HKO.out) (wc.setCell ⟨ga, j, none⟩ (.int .i64 u));have onlyV:=T.only.setCell (p:=⟨ga, j, none⟩) (.inr hgB) (.int .i64 u);have hRo:=T.res;have HMV:=Lib.hid MV;have HBV:=Lib.hid blkV;have HIV:=Lib.hid intsV;have HYV:=Lib.hid bytsV;have HOV:=Lib.hid onlyV;have HRO:=Lib.hid hRo;have HN1:=Lib.hid hn1;have HN2:=Lib.hid hn2;clear MV blkV intsV bytsV onlyV hRo T q5 hoT hgb hn1 hn2 hblk;go_upto_region 13 with (fail);generalize wc.setCell ⟨ga, j, none⟩ (.int .i64 u) = V at HMV HBV HIV HYV HOV ⊢;clear q2 q3 q4 b2;have hgood:=checkM_setW HOK.out HKO.out j HU.out;have hR : ObR V.drew (setW o j u) (some ⟨ga, 0, none⟩) ca B cb:=by
     have hbd:=checkM_bd hgood;refine ⟨?_, ?_, by show (o.ws.set j u).length <= ca; rw [length_set]; exact HRO.out.la, HRO.out.lb, HRO.out.ca63, HRO.out.cb63, HRO.out.na, HRO.out.nb, HRO.out.cls, HRO.out.kind⟩
     ·have e1 : OwnsI V W5.heap.size (.slice (some ⟨ga, 0, none⟩) (o.ws.set j u).length ca) (o.ws.set j u):=by rw [length_set]; exact HIV.out
      obtain ⟨A', c', e, _, _, hA, _⟩:=e1.reads (fun x hx => by have:=hbd x (by simp [setW, hx]); omega);injection e with e; subst e;exact hA.below (below_drewN (Below.refl _ _) 1)
     ·have hb : o.bs = []:=by
       obtain ⟨_, h2⟩:=checkM_parts HOK.out;rcases h2 with ⟨_, h3, _⟩ | ⟨h3, _⟩
       ·exact h3
       ·have:=HKO.out; omega
      show Byts V.drew B o.bs
      rw [hb];exact Byts.nil _ _
    have hst:=store_any P.Q N S2.D i o (setW o j u) (some ⟨ga, 0, none⟩) ca B cb V.drew HMV.out.drew.disk K2.out hR hgood (by rw [encM_length, encM_length]; show 12 + 4 * (o.ws.set j u).length + _ = _; rw [length_set]; rfl);have hobv : obV (setW o j u) (some ⟨ga, 0, none⟩) ca B cb = #[.int .i64 o.cls, .int .i64 o.kind, .slice (some ⟨ga, 0, none⟩) n1 ca, .slice B n2 cb]:=by rw [HN1.out, HN2.out];unfold obV setW;simp only [length_set]
    rw [hobv] at hst;have HST:=Lib.hid hst;obtain ⟨m0, -, -, -, -, -⟩:=HMV.out.look2;obtain ⟨d0, d1, -⟩:=HMV.out.look HX.out;rw [hpm] at m0;rw [hpsb, HI.out] at d1;have c0:=HBV.out.cell 0;have c1:=HBV.out.cell 1;have c2:=HBV.out.cell 2;have c3:=HBV.out.cell 3;simp only [qTa, qTb, qTc] at c0 c1 c2 c3;have MH:=Lib.hid HMV.out.drew;have hO2 : Only (fun g => g = P.Q.P.d) W5 V.drew:=HOV.out.trans (only_drew _ V);have hsetd : ∀ k, k = P.Q.P.d -> P.set S2.sl k:=fun k e => by subst e; exact ⟨1, .inr (.inr (.inr (.inl rfl)))⟩
    have ST6:=Lib.hid (ST5.out.trans (Step.of (S:=S2) (S':=S2) (fun k h => h) (hO2.mono hsetd)));clear hst hobv hR hgood HMV HBV HIV HYV HOV HRO hO2 hsetd ST5 d0;go_still_tail 9, (by kernel_rfl)
    change wpList _ _ _ _ _ V.drew;clear m0 d1 c0 c1 c2 c3;generalize V.drew = V2 at MH HST ST6 ⊢;go_wp2_with fail;refine HST.out.mono ?_;rintro e w5 ⟨rfl, hS5, hO5⟩;have M6:=MH.out.toDisk hO5 _ hS5;have hset5 : ∀ k, P.Q.set k -> P.set S2.sl k:=fun k hk => ⟨1, hk⟩;have ST7:=Lib.hid (ST6.out.trans (Step.of (S:=S2) (S':={ S2 with D:=S2.D.set i (setW o j u) }) (fun k h => h) (hO5.mono hset5)));obtain ⟨-, m1, -, -, -, -⟩:=M6.look2;obtain ⟨d0, -, -⟩:=M6.look HX.out;rw [HR.out, Option.map_some] at d0;obtain ⟨r0, -, -, -, -⟩:=M6.res HX.out HR.out;rw [hpm] at m1;rw [hpsb] at d0;have hal:=(Below.refl w5.heap.size w5).alloc (Nat.le_refl _) (.cells #[.int .i64 65534] 3);have hput:=put_one P N NW NS r.b j w5.heap.size { S2 with D:=S2.D.set i (setW o j u) } ws 65534 _ (M6.below hal).drew K6.out (by have:=HLW.out; have:=HJO.out; omega) (Blk.new w5 3 _).drew (fun hs => by have:=M6.lt _ hs; omega) (by omega);have PUT:=Lib.hid hput;have OW:=Lib.hid (ST7.out.trans (Step.of (S:={ S2 with D:=S2.D.set i (setW o j u) }) (S':={ S2 with D:=S2.D.set i (setW o j u) }) (fun k h => h) (((Only.refl _ w5).alloc (.cells #[.int .i64 65534] 3)).trans (only_drew _ _))));clear hput hal ST7 ST6 M6 hO5 hS5 hset5 HST MH;go_upto_region 14 with (fail);go_region_held3 (fun w' => w'.cell? ⟨p.m, 1, none⟩ = some (.pointer (some ⟨P.H.h, 0, none⟩)) /\ w'.cell? ⟨p.sb, s * 3, none⟩ = some (.pointer (some ⟨r.a, 0, none⟩)) /\ w'.cell? ⟨r.a, 0, none⟩ = some (.int .i64 (r.b : Int)))
     (first | exact ⟨k1, k2, k3⟩ | go_keep)
     (first | (go_at_call 174; refine PUT.out.mono ?_; rintro e w6 ⟨rfl, M4, O4⟩; have HM4:=Lib.hid M4; obtain ⟨-, k1, -, -, -, -⟩:=M4.look2; obtain ⟨k2, -, -⟩:=M4.look HX.out; rw [HR.out, Option.map_some] at k2; obtain ⟨k3, -, -, -, -⟩:=M4.res HX.out HR.out; rw [hpm] at k1; rw [hpsb] at k2))
    have hset : ∀ k, P.H.set k -> P.set S2.sl k:=fun k hk => ⟨2, hk⟩;have I6:=HI2.out.setFar (u:=u) HX.out HR.out HI.out HV.out K6.out K2.out HK.out HJ.out HU.out HM5.out.dist;rw [<- HOLD.out] at I6;have st6:=OW.out.trans (Step.of (S:={ S2 with D:=S2.D.set i (setW o j u) }) (S':={ S2 with D:=S2.D.set i (setW o j u), V:=updV S2.V r.b (some (ws.set j 65534)) }) (fun k h => h) (O4.mono hset));have htl:=set_tail H HPP.out HM4.out I6 st6 HB2.out;have HTL:=Lib.hid htl;clear htl st6 I6 hset O4 M4 HM4 OW PUT k1 k2 k3 m1 d0 r0 HM5 HI2;go_wp2_with fail;refine HTL.out.mono ?_;rintro e w7 ⟨rfl, hE⟩;have HE:=Lib.hid hE;clear hE HTL;go_wp2_with fail;go_ret;exact HE.out
   ·obtain ⟨t, yy, S1, e0, t1, t2, I5, a1, a2, a3, a4, a5, a6, a7, M5, st5⟩:=hc.out;subst e0;have hNS:=M5.small;have hid : 1 <= id /\ oopM id = u:=by
     have h1:=HQ2.out;unfold namM at h1;split at h1
     ·cases h1
     ·injection h1 with h1 _;refine ⟨by omega, ?_⟩;unfold oopM;rw [if_neg (by omega)];omega
    obtain ⟨d0, -, -⟩:=M5.look a5;rw [a6, Option.map_some, hpsb] at d0;obtain ⟨-, -, -, r3, ff⟩:=M5.res a5 a6;have f3:=ff 3;have v6 : S1.V r.b = some ws:=by rw [a2]; exact K6.out
    have hmean : ∀ th, meantM S1.ids (2 * (t : Int)) th = u:=fun th => by
     unfold meantM;rw [if_neg (by unfold widM; rw [if_pos (by omega)]; simp), if_neg (by omega)];have e : (2 * (t : Int) / 2).toNat = t:=by omega
     rw [e, a4];exact hid.2
    have I6:=I5.setWord (y:=2 * (t : Int)) (u:=u) a5 a6 (a7.trans HI.out) HV.out v6 HK.out HJ.out HU.out (.inr (.inr ⟨t, rfl, t1, t2⟩)) hmean M5.dist (fun s2 _ _ => by rw [List.count_singleton]; simp only [beq_iff_eq]);rw [<- HOLD.out] at I6;have M6:=M5.toDirty a5 a6 true;have hres:=(resOf_of a5).trans a6;have st6:=st5.trans (Step.of (S:={ S1 with V:=updV S1.V r.b (some (ws.set j (2 * (t : Int)))) }) (S':={ S1 with V:=updV S1.V r.b (some (ws.set j (2 * (t : Int)))), sl:=S1.sl.set s { yy with res:=some { r with dirty:=true } } }) (fun k hk => dirty_set a5 a6 P k hk) ((Only.refl _ wc).setCell (p:=⟨r.a, 3, none⟩) (.inl ⟨s + 6, r, hres, rfl⟩) (.bool true)));have htl:=set_tail H HPP.out M6 I6 st6 (a3.trans HB2.out);have HTL:=Lib.hid htl;clear htl st6 I6 M6 hres st5 M5 I5 a1 a2 a3 a4 a5 a6 a7 v6 hmean hid ff hc HM3 ST3 HI2 HNR HNM;go_wp2_with fail;refine HTL.out.mono ?_;rintro e w7 ⟨rfl, hE⟩;have HE:=Lib.hid hE;clear hE HTL;go_wp2_with fail;go_ret;exact HE.out
theorem land_lo (a : Nat) (h : a < 65536) : a &&& 18446744073709486335 = a % 256:=by
 have e1 : a = a &&& (2 ^ 16 - 1):=by rw [Nat.and_two_pow_sub_one_eq_mod]; omega
 have e2 : (2 ^ 16 - 1) &&& 18446744073709486335 = 2 ^ 8 - 1:=by decide
 rw [e1, Nat.and_assoc, e2, Nat.and_two_pow_sub_one_eq_mod, Nat.and_two_pow_sub_one_eq_mod];omega
theorem land_hi (a : Nat) (h : a < 65536) : a &&& 18446744073709551360 = 256 * (a / 256):=by
 apply Nat.eq_of_testBit_eq
 intro i;have e1 : (18446744073709551360 : Nat) = 2 ^ 8 * (2 ^ 56 - 1):=by decide
 have e2 : 256 * (a / 256) = 2 ^ 8 * (a / 2 ^ 8):=rfl;rw [Nat.testBit_and, e1, e2, Nat.testBit_two_pow_mul, Nat.testBit_two_pow_mul, Nat.testBit_two_pow_sub_one, Nat.testBit_div_two_pow];by_cases h8 : 8 <= i
 ·have e3 : i - 8 + 8 = i:=by omega
  rw [e3];by_cases h9 : i - 8 < 56
  ·simp [h8, h9]
  ·have : a.testBit i = false:=Nat.testBit_lt_two_pow (Nat.lt_of_lt_of_le h (Nat.le_trans (by decide : 65536 <= 2 ^ 16) (Nat.pow_le_pow_right (by decide) (by omega))));simp [this]
 ·simp [h8]
theorem andNot_lo (x : Int) (h0 : 0 <= x) (h1 : x <= 65535) : bits .andNot .i64 x 65280 = x % 256:=by
 obtain ⟨a, ha⟩ : ∃ a : Nat, x = a:=⟨x.toNat, by omega⟩;subst ha;have e : (BitVec.ofInt 64 ((a : Nat) : Int) &&& ~~~ BitVec.ofInt 64 65280).toNat = a % 256:=by
  rw [BitVec.toNat_and, BitVec.toNat_ofInt];have e1 : (((a : Nat) : Int) % ((2 ^ 64 : Nat) : Int)).toNat = a:=by omega
  have e2 : (~~~ BitVec.ofInt 64 65280).toNat = 18446744073709486335:=by decide
  rw [e1, e2];exact land_lo a (by omega)
 show IntKind.i64.wrap ((BitVec.ofInt 64 ((a : Nat) : Int) &&& ~~~ BitVec.ofInt 64 65280).toNat : Nat) = _
 rw [e, IntKind.wrap_i64];omega
theorem andNot_hi (x : Int) (h0 : 0 <= x) (h1 : x <= 65535) : bits .andNot .i64 x 255 = x / 256 * 256:=by
 obtain ⟨a, ha⟩ : ∃ a : Nat, x = a:=⟨x.toNat, by omega⟩;subst ha;have e : (BitVec.ofInt 64 ((a : Nat) : Int) &&& ~~~ BitVec.ofInt 64 255).toNat = 256 * (a / 256):=by
  rw [BitVec.toNat_and, BitVec.toNat_ofInt];have e1 : (((a : Nat) : Int) % ((2 ^ 64 : Nat) : Int)).toNat = a:=by omega
  have e2 : (~~~ BitVec.ofInt 64 255).toNat = 18446744073709551360:=by decide
  rw [e1, e2];exact land_hi a (by omega)
 show IntKind.i64.wrap ((BitVec.ofInt 64 ((a : Nat) : Int) &&& ~~~ BitVec.ofInt 64 255).toNat : Nat) = _
 rw [e, IntKind.wrap_i64];omega
theorem or_lo (x y : Int) (h0 : 0 <= x) (h1 : x < 256) (h2 : 0 <= y) (h3 : y <= 255) : bits .or .i64 x (y * 256) = y * 256 + x:=by
 obtain ⟨a, ha⟩ : ∃ a : Nat, x = a:=⟨x.toNat, by omega⟩;obtain ⟨b, hb⟩ : ∃ b : Nat, y = b:=⟨y.toNat, by omega⟩;subst ha hb;have e : (BitVec.ofInt 64 ((a : Nat) : Int) ||| BitVec.ofInt 64 ((b : Nat) * 256 : Int)).toNat = b * 256 + a:=by
  rw [BitVec.toNat_or, BitVec.toNat_ofInt, BitVec.toNat_ofInt];have e1 : (((a : Nat) : Int) % ((2 ^ 64 : Nat) : Int)).toNat = a:=by omega
  have e2 : (((b : Nat) * 256 : Int) % ((2 ^ 64 : Nat) : Int)).toNat = 2 ^ 8 * b:=by omega
  rw [e1, e2, Nat.or_comm];have:=Nat.two_pow_add_eq_or_of_lt (i:=8) (b:=a) (by omega) b;rw [<- this];omega
 show IntKind.i64.wrap ((BitVec.ofInt 64 ((a : Nat) : Int) ||| BitVec.ofInt 64 ((b : Nat) * 256 : Int)).toNat : Nat) = _
 rw [e, IntKind.wrap_i64];omega
def putB (old u : Int) (j : Nat) : Int:=if j % 2 = 0 then u * 256 + old % 256 else old / 256 * 256 + u
theorem putB_ok {old u : Int} {j : Nat} (h0 : 0 <= old /\ old <= 65535) (hu : 0 <= u /\ u <= 255) : 0 <= putB old u j /\ putB old u j <= 65535 /\ byteM (putB old u j) j = u /\ ∀ q, q ≠ j -> q / 2 = j / 2 -> byteM (putB old u j) q = byteM old q:=by
 unfold putB;refine ⟨by split <;> omega, by split <;> omega, ?_, fun q h1 h2 => ?_⟩
 ·unfold byteM;split <;> omega
 ·unfold byteM;rcases Nat.mod_two_eq_zero_or_one j with hp | hp
  ·have hq : ¬ q % 2 = 0:=by omega
   simp only [if_pos hp, if_neg hq];omega
  ·have hp2 : ¬ j % 2 = 0:=by omega
   have hq : q % 2 = 0:=by omega
   simp only [if_neg hp2, if_pos hq];omega
theorem setbyte_any (p : LmP) (N NW NS i j : Nat) (S : St) (Vt : List Ob) (v : Ob) (u : Int) (w : World) (h : LmMem w p N NW NS S) (hI : Inv NS S Vt [] (fun _ => False) (fun _ => False)) (hbusy : S.busy = 0) (hv : Vt[i]? = some v) (hsm : i < 1073741823) (hk : v.kind = 2) (hj : j < v.bs.length) (hu : 0 <= u /\ u <= 255) :
  Calls Tryz.prog 164 #[.pointer (some ⟨p.m, 0, none⟩), .int .i64 (2 * ((i : Int) + 1)), .int .i64 j, .int .i64 u] w (SetPost p N NW NS S Vt i (setB v j u) w):=by
 have hpl:=place_any p N NW NS i j S Vt v w h hI hbusy hv hsm (by rw [size2 hk]; exact hj);rw [hk] at hpl;have hgv:=hI.good v (mem_of_getElem? hv);have hj9 : j < 1000:=by
  obtain ⟨_, h2⟩:=checkM_parts hgv;rcases h2 with ⟨a1, _⟩ | ⟨_, _, a3⟩
  ·omega
  ·omega
 have HPL:=hid hpl;have HV:=hid hv;have HK:=hid hk;have HJ:=hid hj;obtain ⟨u0, u1⟩:=hu;clear hpl hv hk hj h hI hbusy hgv;go_enter Tryz.func164, Tryz.ntmps164;go_wp2_with fail;refine HPL.out.mono ?_;rintro e w2 (⟨rfl, H, S2, st, M2, I2, b2⟩ | ⟨s, x, r, H, S2, rfl, st, M2, I2, b2, hx, hr, hi⟩)
 ·have e3 : SetPost p N NW NS S Vt i (setB v j u) w (.returned (.int .i64 3)) w2:=.inl ⟨rfl, H, S2, st, M2, I2, b2⟩;have HE:=hid e3;clear e3 st M2 I2 b2 HPL HV HK HJ;go_wp2_with fail;go_ret;exact HE.out
 ·obtain ⟨P, hP⟩ : ∃ P : LmP, P = { p with H:=H }:=⟨_, rfl⟩;rw [<- hP] at st M2;have hpm : P.m = p.m:=by rw [hP]
  have hpsb : P.sb = p.sb:=by rw [hP]
  obtain ⟨o, ws, k2, k4, k5, k6, k7, k8, k9, k10⟩:=I2.have_ hx hr hi HV.out;have hko : o.kind = 2:=k8.kind.symm.trans HK.out;have hjo : j < o.bs.length:=by rw [<- k8.lb]; exact HJ.out
  have hlw : ws.length = (o.bs.length + 1) / 2:=by rw [k7, lenW, if_pos hko, size2 hko]
  obtain ⟨jh, hjh⟩ : ∃ jh : Nat, jh = j / 2:=⟨_, rfl⟩;have hjh2 : (j : Int) / 2 = (jh : Int):=by omega
  have hjh3 : (j : Int).tdiv 2 = (jh : Int):=by rw [Int.tdiv_eq_ediv_of_nonneg (by omega)]; exact hjh2
  have hjw : IntKind.i64.wrap (jh : Int) = (jh : Int):=by rw [IntKind.wrap_i64]; omega
  have hjl : jh < ws.length:=by omega
  obtain ⟨old, hold⟩ : ∃ old, old = ws.getD jh 0:=⟨_, rfl⟩;have hrd:=fun (k : Nat) => hid (heapRead_any P.H NW S2.hc S2.V S2.t r.b jh ws (w2.drewN k) (M2.drewN k).heap k6 hjl);have hov:=(M2.heap.vals k6).2.2 _ (getD_mem (l:=ws) (j:=jh) hjl);rw [<- hold] at hrd hov;obtain ⟨-, m1, -, -, -, -⟩:=M2.look2;obtain ⟨d0, -, -⟩:=M2.look hx;rw [hr, Option.map_some] at d0;obtain ⟨r0, -, -, -, -⟩:=M2.res hx hr;rw [hpm] at m1;rw [hpsb] at d0;have HRD:=hid hrd;have HM2:=hid M2;have HI2:=hid I2;have ST2:=hid st;have HB2:=hid b2;have HX:=hid hx;have HR:=hid hr;have HI:=hid hi;have K6:=hid k6;have HJL:=hid hjl;have HOLD:=hid hold;have HPP:=hid hP;have HJH:=hid hjh;obtain ⟨o0, o1⟩:=hov;clear hrd M2 I2 st b2 hx hr hi k2 k4 k5 k6 k7 k8 k9 k10 hko hjo hlw hold hP HPL hjl hjh;go_wp2_with fail;go_quiet ((go_at_call 30; exact Calls.quiet_of (HRD.out _).out))
  have HM3:=hid (HM2.out.drewN nq);have ST3:=hid (ST2.out.trans (Step.of (S':=S2) (fun k h => h) ((Only.refl _ w2).drewN nq)));clear HRD HM2 ST2 m1 d0 r0;generalize w2.drewN nq = W at HM3 ST3 ⊢;obtain ⟨y0, y1, y2, y3⟩:=putB_ok (j:=j) ⟨o0, o1⟩ ⟨u0, u1⟩;have Y2:=hid y2;have Y3:=hid y3;have w8 : IntKind.i64.wrap 8 = 8:=by decide
  have w0 : IntKind.i64.wrap 0 = 0:=by decide
  have w65 : IntKind.i64.wrap 65280 = 65280:=by decide
  have w25 : IntKind.i64.wrap 255 = 255:=by decide
  have b1:=andNot_lo old o0 o1;have b2:=andNot_hi old o0 o1;have b3:=or_lo (old % 256) u (by omega) (by omega) u0 u1;have b4:=i64_or8 (old / 256 * 256) u (by omega) (by omega) (by omega) u0 (by omega);have xw : IntKind.i64.wrap u = u:=by rw [IntKind.wrap_i64]; omega
  have xw2 : IntKind.i64.wrap (u * 256) = u * 256:=by rw [IntKind.wrap_i64]; omega
  have finish : ∀ y : Int, y = putB old u j -> Hid (∀ w5, LmMem w5 P N NW NS { S2 with V:=updV S2.V r.b (some (ws.set jh y)) } -> Only P.H.set (W.alloc (.cells #[.int .i64 y] 3)).drew w5 -> SetPost p N NW NS S Vt i (setB v j u) w (.returned (.int .i64 0)) (w5.setCell ⟨r.a, 3, none⟩ (.bool true))):=fun y hy => hid (fun w5 M5 O5 => by
   have M6:=M5.toDirty HX.out HR.out true;have hres:=(resOf_of HX.out).trans HR.out;have hset : ∀ k, P.H.set k -> P.set S2.sl k:=fun k hk => ⟨2, hk⟩;have I6:=HI2.out.setByt (j:=j) (y:=y) (u:=u) HX.out HR.out HI.out HV.out K6.out HK.out HJ.out (by rw [hy]; exact Y2.out) (fun q h1 h2 => by rw [hy, <- HJH.out, <- HOLD.out]; exact Y3.out q h1 h2) HM3.out.dist;rw [<- HJH.out] at I6;have st6:=ST3.out.trans ((Step.of (S:=S2) (S':=S2) (fun k h => h) (((Only.refl _ W).alloc (.cells #[.int .i64 y] 3)).trans (only_drew _ _))).trans ((Step.of (S:=S2) (S':={ S2 with V:=updV S2.V r.b (some (ws.set jh y)) }) (fun k h => h) (O5.mono hset)).trans (Step.of (S:={ S2 with V:=updV S2.V r.b (some (ws.set jh y)) }) (S':={ S2 with V:=updV S2.V r.b (some (ws.set jh y)), sl:=S2.sl.set s { x with res:=some { r with dirty:=true } } }) (fun k hk => dirty_set HX.out HR.out P k hk) ((Only.refl _ w5).setCell (p:=⟨r.a, 3, none⟩) (.inl ⟨s + 6, r, hres, rfl⟩) (.bool true)))));refine .inr ⟨rfl, H, _, ?_, ?_, I6, HB2.out⟩
   ·rw [<- HPP.out]; exact st6
   ·rw [<- HPP.out]; exact M6)
  have hput:=fun (y : Int) (h0 : 0 <= y) (h1 : y <= 65535) => put_one P N NW NS r.b jh W.heap.size S2 ws y _ (HM3.out.below ((Below.refl W.heap.size W).alloc (Nat.le_refl _) (.cells #[.int .i64 y] 3))).drew K6.out HJL.out (Blk.new W 3 _).drew (fun hs => by have:=HM3.out.lt _ hs; omega) ⟨h0, h1⟩;obtain ⟨-, m1, -, -, -, -⟩:=HM3.out.look2;obtain ⟨d0, -, -⟩:=HM3.out.look HX.out;rw [HR.out, Option.map_some] at d0;obtain ⟨r0, -, -, -, -⟩:=HM3.out.res HX.out HR.out;rw [hpm] at m1;rw [hpsb] at d0;have HPUT:=hid hput;clear hput y2 y3;rcases Nat.mod_two_eq_zero_or_one j with hp | hp
  ·have t1 : (j : Int) % 2 = 0:=by omega
   have t2 : (j : Int).tmod 2 = 0:=by rw [Int.tmod_eq_emod_of_nonneg (by omega)]; exact t1
   have hpb : putB old u j = u * 256 + old % 256:=by rw [putB, if_pos hp]
   rw [hpb] at y0 y1;have HF:=finish _ hpb.symm;have PUT:=hid (HPUT.out _ y0 y1);clear hpb hp finish HPUT;go_upto_region 8 with (fail);go_region_held3 (fun w' => w'.cell? ⟨p.m, 1, none⟩ = some (.pointer (some ⟨P.H.h, 0, none⟩)) /\ w'.cell? ⟨p.sb, s * 3, none⟩ = some (.pointer (some ⟨r.a, 0, none⟩)) /\ w'.cell? ⟨r.a, 0, none⟩ = some (.int .i64 (r.b : Int)))
    (first | exact ⟨k1, k2, k3⟩ | go_keep)
    (first | (go_at_call 174; refine PUT.out.mono ?_; rintro e w5 ⟨rfl, M4, O4⟩; have HE:=hid (HF.out w5 M4 O4); obtain ⟨-, k1, -, -, -, -⟩:=M4.look2; obtain ⟨k2, -, -⟩:=M4.look HX.out; rw [HR.out, Option.map_some] at k2; obtain ⟨k3, -, -, f3, ff⟩:=M4.res HX.out HR.out; rw [hpm] at k1; rw [hpsb] at k2; have f4:=ff 3))
   clear M4 O4 HF PUT m1 d0 r0 ff HM3 HI2 ST3;go_wp2_with fail;go_ret;exact HE.out
  ·have t1 : (j : Int) % 2 = 1:=by omega
   have t2 : (j : Int).tmod 2 = 1:=by rw [Int.tmod_eq_emod_of_nonneg (by omega)]; exact t1
   have hpb : putB old u j = old / 256 * 256 + u:=by rw [putB, if_neg (by omega)]
   rw [hpb] at y0 y1;have HF:=finish _ hpb.symm;have PUT:=hid (HPUT.out _ y0 y1);clear hpb hp finish HPUT;go_upto_region 8 with (fail);go_region_held3 (fun w' => w'.cell? ⟨p.m, 1, none⟩ = some (.pointer (some ⟨P.H.h, 0, none⟩)) /\ w'.cell? ⟨p.sb, s * 3, none⟩ = some (.pointer (some ⟨r.a, 0, none⟩)) /\ w'.cell? ⟨r.a, 0, none⟩ = some (.int .i64 (r.b : Int)))
    (first | exact ⟨k1, k2, k3⟩ | go_keep)
    (first | (go_at_call 174; refine PUT.out.mono ?_; rintro e w5 ⟨rfl, M4, O4⟩; have HE:=hid (HF.out w5 M4 O4); obtain ⟨-, k1, -, -, -, -⟩:=M4.look2; obtain ⟨k2, -, -⟩:=M4.look HX.out; rw [HR.out, Option.map_some] at k2; obtain ⟨k3, -, -, f3, ff⟩:=M4.res HX.out HR.out; rw [hpm] at k1; rw [hpsb] at k2; have f4:=ff 3))
   clear M4 O4 HF PUT m1 d0 r0 ff HM3 HI2 ST3;go_wp2_with fail;go_ret;exact HE.out
def ObjPost (p : LmP) (N NW NS : Nat) (S : St) (Vt : List Ob) (v : Ob) (w : World) (e : Ending) (w' : World) : Prop :=
 ∃ (y : Value) (S' : St), e = .returned (.tuple #[y, .int .i64 0]) /\ FreshO v w y w' /\ Step p S w p S' w' /\ LmMem w' p N NW NS S' /\ Inv NS S' Vt [] (fun _ => False) (fun _ => False) /\ S'.busy = S.busy /\ ∀ k, p.set S'.sl k -> p.set S.sl k
def four (w : World) (g : Nat) (v : Ob) (A : Option Addr) (ca : Nat) (B : Option Addr) (cb : Nat) : World :=
 (((w.setCell ⟨g, 0, none⟩ (.int .i64 v.cls)).setCell ⟨g, 1, none⟩ (.int .i64 v.kind)).setCell ⟨g, 2, none⟩ (.slice A v.ws.length ca)).setCell ⟨g, 3, none⟩ (.slice B v.bs.length cb)
theorem obj_fin {p : LmP} {N NW NS : Nat} {S S' : St} {Vt : List Ob} {v : Ob} {w W w3 : World} {A B : Option Addr} {ca cb : Nat} (hlow : ∀ k, p.set S.sl k -> k < w.heap.size) (hM : LmMem W p N NW NS S') (hI : Inv NS S' Vt [] (fun _ => False) (fun _ => False)) (hst : Step p S (w.alloc (.cells zeroO 29)) p S' W) (hb : S'.busy = S.busy) (hsub : ∀ k, p.set S'.sl k -> p.set S.sl k)
  (hz : Blk W w.heap.size 29 zeroO) (hF : FreshO v W (.agg (obV v A ca B cb)) w3) (hS : SecAt w3 p.Q N S'.D) (hO : Only (fun g => g = p.Q.P.d) W w3) :
  ObjPost p N NW NS S Vt v w (.returned (.tuple #[.agg (obV v A ca B cb), .int .i64 0])) (four w3 w.heap.size v A ca B cb) /\ Blk (four w3 w.heap.size v A ca B cb) w.heap.size 29 (obV v A ca B cb):=by
 have hne : ∀ k, p.set S'.sl k -> k ≠ w.heap.size:=fun k hk e => by
  rcases hst.sub k hk with h1 | h1
  ·have:=hlow k h1; omega
  ·rw [World.size_alloc] at h1; omega
 have hset : ∀ k, k = p.Q.P.d -> p.set S'.sl k:=fun k e => by subst e; exact ⟨1, .inr (.inr (.inr (.inl rfl)))⟩
 have M3:=hM.taken hS hO;have z3:=hz.only hO (fun e => hne _ (hset _ e) rfl);have h4:=only_four w3 w.heap.size (.int .i64 v.cls) (.int .i64 v.kind) (.slice A v.ws.length ca) (.slice B v.bs.length cb);have M4:=M3.only h4 (fun k hk e => hne k hk e);have hwz:=hz.lt;obtain ⟨vW, vB, hv, hI2, hB2, k1, k2⟩:=hF;have e:=congrArg (fun v : Value => v.cells) hv;simp only [Value.cells] at e;have e2:=congrArg (fun a : Array Value => a[2]?) e;have e3:=congrArg (fun a : Array Value => a[3]?) e;simp only [obV, qTa, qTb, qTc] at e2 e3;injection e2 with e2;injection e3 with e3;subst e2;subst e3;refine ⟨⟨_, S', rfl, ⟨_, _, rfl, ?_, ?_, k1, k2⟩, ?_, M4, hI, hb, hsub⟩, z3.set1111 _ _ _ _⟩
 ·exact (hI2.only h4 (fun g e => by omega)).mono (by omega)
 ·exact (hB2.only h4 (fun g e => by omega)).mono (by omega)
 ·have s1:=hst.trans (Step.of (S':=S') (fun k h => h) (hO.mono hset));refine ⟨rfl, fun k hk => ?_, ?_⟩
  ·rcases s1.sub k hk with h1 | h1
   ·exact .inl h1
   ·rw [World.size_alloc] at h1; exact .inr (by omega)
  ·have o1 : Only (p.set S.sl) w w3:=((Only.refl _ w).alloc _).trans s1.only;exact o1.then_ h4 (fun g e => .inr (by omega))
theorem objget_any (p : LmP) (N NW NS i : Nat) (S : St) (Vt : List Ob) (v : Ob) (w : World) (h : LmMem w p N NW NS S) (hI : Inv NS S Vt [] (fun _ => False) (fun _ => False)) (hv : Vt[i]? = some v) (hsm : i < 1073741823) :
  Calls Tryz.prog 162 #[.pointer (some ⟨p.m, 0, none⟩), .int .i64 (2 * ((i : Int) + 1))] w (ObjPost p N NW NS S Vt v w):=by
 have hb0:=(Below.refl w.heap.size w).alloc (Nat.le_refl _) (.cells zeroO 29);have M0:=h.below hb0;have hid:=lid_any p N NW NS i S _ M0 (by rw [<- hI.lenV]; exact (List.getElem?_eq_some_iff.1 hv).1) hsm;have z0:=Blk.new w 29 zeroO;have HLOW:=Lib.hid h.lt;have HID:=Lib.hid hid;have HM0:=Lib.hid M0;have HI:=Lib.hid hI;have HV:=Lib.hid hv;have HZ0:=Lib.hid z0;have hil : i < S.D.length:=by rw [<- hI.lenV]; exact (List.getElem?_eq_some_iff.1 hv).1
 have HIL:=Lib.hid hil;clear hid M0 z0 hI hv h hb0 hil;have fin:=fun (W : World) (S' : St) (hM : LmMem W p N NW NS S') (hI : Inv NS S' Vt [] (fun _ => False) (fun _ => False)) hst hb hsub hz (w3 : World) (A : Option Addr) (ca : Nat) (B : Option Addr) (cb : Nat) => obj_fin (S:=S) (w:=w) (w3:=w3) (v:=v) (A:=A) (B:=B) (ca:=ca) (cb:=cb) HLOW.out hM hI hst hb hsub hz;have FIN:=Lib.hid fin;clear fin;unfold zeroO at *;go_enter Tryz.func162, Tryz.ntmps162;go_wp2_with fail;refine HID.out.mono ?_;rintro e w1 ⟨rfl, hb⟩;have M1:=HM0.out.below hb;have st1 : Step p S (w.alloc (.cells zeroO 29)) p S w1:=Step.of (fun k h => h) (only_of hb _);have z1:=HZ0.out.keep hb;have NSs:=M1.small;obtain ⟨hash, hn, hi⟩:=M1.names;obtain ⟨m0, -, m2, -, m4, -⟩:=M1.look2;have hfind:=HI.out.find M1.dist i;have HM1:=Lib.hid M1;have ST1:=Lib.hid st1;have HZ1:=Lib.hid z1;clear st1 z1 hb HM0 HZ0 HID;rcases hfind with ⟨s, x, hx, s1, s2, hs, hxi, ⟨r, hr⟩ | ⟨hr, haw⟩⟩ | ⟨hno, haw⟩
 ·have hsl:=slot_yes p.T NS S.ids hash ((i : Int) + 1) s w1 hn hi (by omega) (by omega) s1 s2 hs;obtain ⟨d0, -, -⟩:=M1.look hx;rw [hr, Option.map_some] at d0;have hbk:=back_any p N NW NS s i S Vt [] (fun _ => False) (fun _ => False) x r v w1 M1 HI.out hx hr hxi HV.out;have I2:=HI.out.back hx hr hxi HV.out M1.dist;have hD : (backS S s i x r v).D[i]? = some v:=List.getElem?_set_self HIL.out;have st2 : ∀ w2, Only (p.set S.sl) w1 w2 -> Step p S (w.alloc (.cells zeroO 29)) p (backS S s i x r v) w2:=fun w2 hO => ST1.out.trans (Step.of (S:=S) (S':=backS S s i x r v) (fun k hk => dirty_set hx hr p k hk) hO);have hsub : ∀ k, p.set (backS S s i x r v).sl k -> p.set S.sl k:=fun k hk => dirty_set hx hr p k hk;have HSUB:=Lib.hid hsub;have HSL:=Lib.hid hsl;have HBK:=Lib.hid hbk;have HI2:=Lib.hid I2;have HD:=Lib.hid hD;have ST2:=Lib.hid st2;have hsN : s < NS + 1:=by omega
  clear hsub hsl hbk I2 hD st2 hx hr hxi hs hn hi M1 HI HV HM1;go_wp2_with fail;refine HSL.out.mono ?_;rintro e w2 ⟨rfl, rfl⟩;go_wp2_with fail;refine HBK.out.mono ?_;rintro e w2 ⟨rfl, M2, O2⟩;have z2:=HZ1.out.only O2 (fun e => by have:=HLOW.out _ e; omega);have hft:=fetch_ok p.Q N (backS S s i x r v).D i v w2 M2.disk HD.out;have hok:=M2.disk.ok v (mem_of_getElem? HD.out);have hbv:=M2.disk.vals HD.out;have HFT:=Lib.hid hft;have HOK:=Lib.hid hok;have HBV:=Lib.hid hbv;have HF2:=Lib.hid (FIN.out w2 (backS S s i x r v) M2 HI2.out (ST2.out w2 O2) rfl HSUB.out z2);have HZ2:=Lib.hid z2;obtain ⟨k0, -, -, -, -, -⟩:=M2.look2;have hne : p.Q.P.d ≠ w.heap.size:=fun e => by have:=HLOW.out p.Q.P.d ⟨1, .inr (.inr (.inr (.inl rfl)))⟩; omega
  clear hft hok hbv z2 M2 O2 HBK HSL HI2 HD ST2 FIN HZ1 ST1 d0 m0 m2 m4;go_wp2_with fail;refine HFT.out.mono ?_;rintro e w3 ⟨y, rfl, hF, hS, hO⟩;obtain ⟨A, ca, B, cb, rfl, hR, -, -, -, -⟩:=hF.parts HOK.out HBV.out;obtain ⟨f1, f2⟩:=HF2.out w3 A ca B cb hF hS hO;have z3:=HZ2.out.only hO (fun e => hne e.symm);have F1:=Lib.hid f1;have F2:=Lib.hid f2;have f3:=z3.frozen;have c0:=z3.cell 0;have c1:=z3.cell 1;have c2:=z3.cell 2;have c3:=z3.cell 3;simp only [qTa, qTb, qTc] at c0 c1 c2 c3;unfold obV at F1 F2 ⊢;unfold four at F1 F2;clear f1 f2 z3 hF hS hO hR HF2 HZ2 HFT HOK HBV;go_wp2_with fail;refine bodyPost_ret (res_cell_tmp rfl _ _ w.heap.size 29 _ (0, 0) _ rfl F2.out Tryz.underlying29 rfl size29) rfl ?_;exact F1.out
 ·have hsl:=slot_yes p.T NS S.ids hash ((i : Int) + 1) s w1 hn hi (by omega) (by omega) s1 s2 hs;obtain ⟨d0, -, -⟩:=M1.look hx;rw [hr, Option.map_none] at d0;have hsN : s < NS + 1:=by omega
  have hD : S.D[i]? = some v:=by have h1:=HI.out.awayV (getElem?_eq_getElem HIL.out) haw;rw [HV.out] at h1;rw [getElem?_eq_getElem HIL.out];exact h1.symm
  have hft:=fetch_ok p.Q N S.D i v w1 M1.disk hD;have hok:=M1.disk.ok v (mem_of_getElem? hD);have hbv:=M1.disk.vals hD;have HFT:=Lib.hid hft;have HOK:=Lib.hid hok;have HBV:=Lib.hid hbv;have HF2:=Lib.hid (FIN.out w1 S M1 HI.out ST1.out rfl (fun _ h => h) HZ1.out);have hne : p.Q.P.d ≠ w.heap.size:=fun e => by have:=HLOW.out p.Q.P.d ⟨1, .inr (.inr (.inr (.inl rfl)))⟩; omega
  have HSL:=Lib.hid hsl;clear hsl hft hok hbv hD M1 hn hi HI HV HM1 FIN ST1 haw hx hr hxi hs;go_wp2_with fail;refine HSL.out.mono ?_;rintro e w2 ⟨rfl, rfl⟩;go_wp2_with fail;refine HFT.out.mono ?_;rintro e w3 ⟨y, rfl, hF, hS, hO⟩;obtain ⟨A, ca, B, cb, rfl, hR, -, -, -, -⟩:=hF.parts HOK.out HBV.out;obtain ⟨f1, f2⟩:=HF2.out w3 A ca B cb hF hS hO;have z3:=HZ1.out.only hO (fun e => hne e.symm);have F1:=Lib.hid f1;have F2:=Lib.hid f2;have f3:=z3.frozen;have c0:=z3.cell 0;have c1:=z3.cell 1;have c2:=z3.cell 2;have c3:=z3.cell 3;simp only [qTa, qTb, qTc] at c0 c1 c2 c3;unfold obV at F1 F2 ⊢;unfold four at F1 F2;clear f1 f2 z3 hF hS hO hR HF2 HZ1 HFT HOK HBV HSL;go_wp2_with fail;refine bodyPost_ret (res_cell_tmp rfl _ _ w.heap.size 29 _ (0, 0) _ rfl F2.out Tryz.underlying29 rfl size29) rfl ?_;exact F1.out
 ·have hsl:=slot_no p.T NS S.ids hash ((i : Int) + 1) w1 hn hi (by omega) (by omega) hno;have hD : S.D[i]? = some v:=by have h1:=HI.out.awayV (getElem?_eq_getElem HIL.out) haw;rw [HV.out] at h1;rw [getElem?_eq_getElem HIL.out];exact h1.symm
  have hft:=fetch_ok p.Q N S.D i v w1 M1.disk hD;have hok:=M1.disk.ok v (mem_of_getElem? hD);have hbv:=M1.disk.vals hD;have HFT:=Lib.hid hft;have HOK:=Lib.hid hok;have HBV:=Lib.hid hbv;have HF2:=Lib.hid (FIN.out w1 S M1 HI.out ST1.out rfl (fun _ h => h) HZ1.out);have hne : p.Q.P.d ≠ w.heap.size:=fun e => by have:=HLOW.out p.Q.P.d ⟨1, .inr (.inr (.inr (.inl rfl)))⟩; omega
  have HSL:=Lib.hid hsl;clear hsl hft hok hbv hD M1 hn hi HI HV HM1 FIN ST1 haw hno;go_wp2_with fail;refine HSL.out.mono ?_;rintro e w2 ⟨rfl, rfl⟩;go_wp2_with fail;refine HFT.out.mono ?_;rintro e w3 ⟨y, rfl, hF, hS, hO⟩;obtain ⟨A, ca, B, cb, rfl, hR, -, -, -, -⟩:=hF.parts HOK.out HBV.out;obtain ⟨f1, f2⟩:=HF2.out w3 A ca B cb hF hS hO;have z3:=HZ1.out.only hO (fun e => hne e.symm);have F1:=Lib.hid f1;have F2:=Lib.hid f2;have f3:=z3.frozen;have c0:=z3.cell 0;have c1:=z3.cell 1;have c2:=z3.cell 2;have c3:=z3.cell 3;simp only [qTa, qTb, qTc] at c0 c1 c2 c3;unfold obV at F1 F2 ⊢;unfold four at F1 F2;clear f1 f2 z3 hF hS hO hR HF2 HZ1 HFT HOK HBV HSL;go_wp2_with fail;refine bodyPost_ret (res_cell_tmp rfl _ _ w.heap.size 29 _ (0, 0) _ rfl F2.out Tryz.underlying29 rfl size29) rfl ?_;exact F1.out
theorem mul_mask (a : Nat) (ha : a < 4294967296) : bits .and .u64 (a : Int) 4294967295 = (a : Int):=by have h:=bits_and_u64_nat a 4294967295 (by omega) (by omega);have e : a &&& 4294967295 = a % 4294967296:=Nat.and_two_pow_sub_one_eq_mod a 32;rw [e, Nat.mod_eq_of_lt ha] at h;exact h
theorem mul64_one (y : Nat) (hy : y <= 1000) (w : World) :
  Calls Tryz.prog 202 #[.int .u64 1, .int .u64 y] w fun e w' => e = .returned (.tuple #[.int .u64 0, .int .u64 (y : Int)]) /\ w = w':=by
 have h1:=mul_mask y (by omega);have h2 : bits .and .u64 1 4294967295 = 1:=mul_mask 1 (by omega);have h3 : IntKind.u64.wrap (y : Int) = (y : Int):=by rw [IntKind.wrap_u64]; omega
 have h4 : (y : Int) / 4294967296 = 0:=by omega
 have h5 : bits .and .u64 0 4294967295 = 0:=mul_mask 0 (by omega);have h6 : IntKind.u64.wrap 0 = 0:=by decide
 have h7 : IntKind.u64.wrap 1 = 1:=by decide
 clear hy;go_enter Tryz.func202, Tryz.ntmps202;go_wp2_with fail;go_ret2;exact ⟨rfl, rfl⟩
theorem mul_one (y : Nat) (hy : y <= 1000) (w : World) :
  Calls Tryz.prog 188 #[.int .u64 1, .int .u64 y] w fun e w' => e = .returned (.tuple #[.int .u64 0, .int .u64 (y : Int)]) /\ w = w':=by
 have hm:=fun W => mul64_one y hy W;have h3 : IntKind.u64.wrap (y : Int) = (y : Int):=by rw [IntKind.wrap_u64]; omega
 have HM:=hid hm;clear hm hy;go_enter Tryz.func188, Tryz.ntmps188;go_wp2_with fail;refine (HM.out _).mono ?_;rintro e w2 ⟨rfl, rfl⟩;go_wp2_with fail;go_ret2;exact ⟨rfl, rfl⟩
def rep (m n : Nat) : List Int:=List.replicate m 2 ++ List.replicate (n - m) 0
theorem rep_length {m n : Nat} (h : m <= n) : (rep m n).length = n:=by simp [rep]; omega
theorem rep_cells (m n k : Nat) (a b : Value) : (List.replicate m a ++ List.replicate (n - m) b).take m ++ List.replicate k a ++ (List.replicate m a ++ List.replicate (n - m) b).drop (m + k) = List.replicate (m + k) a ++ List.replicate (n - (m + k)) b:=by
 have h1 : (List.replicate m a ++ List.replicate (n - m) b).take m = List.replicate m a:=List.take_left' (by simp);have h2 : (List.replicate m a).drop (m + k) = []:=List.drop_eq_nil_of_le (by simp);have h3 : n - m - (m + k - m) = n - (m + k):=by omega
 rw [h1, List.drop_append, h2, List.nil_append, length_replicate, List.drop_replicate, h3, List.replicate_append_replicate]
theorem run_rep (w : World) (g n m k : Nat) (cs : Nat) (h : Blk w g 3 (intCells (rep m n))) (hk : k = Nat.min cs (n - m)) (hn : m <= n) (src : Addr) (hs : ∀ j, j < k -> w.cell? (src.add j) = some (.int .i64 2)) (dc sc : Nat) :
  (Builtin.copy_ #[26, 26] 3 #[.slice (some ⟨g, m, none⟩) (n - m) dc, .slice (some src) cs sc]).run Tryz.prog w = .ok (.int .i64 (k : Int)) (w.setRow g (intCells (rep (m + k) n))):=by
 have hsz : (Tryz.prog.info? 3).map (·.size) = some 1:=by kernel_rfl
 have hkn : m + k <= n:=by
  have : k <= n - m:=by rw [hk]; exact Nat.min_le_right _ _
  omega
 have hr:=run_copy_row (P:=Tryz.prog) w 26 26 3 3 g m (n - m) dc src cs sc (intCells (rep m n)) 3 (List.replicate k (.int .i64 2)) Tryz.underlying26 hsz h (by rw [length_replicate]; exact hk)
  (by
   intro j v hv;have hj:=(List.getElem?_eq_some_iff.1 hv).1;rw [length_replicate] at hj;rw [List.getElem?_replicate, if_pos hj] at hv;cases hv
   exact hs j hj)
  (by rw [length_replicate]; simp only [intCells, List.size_toArray, List.length_map, rep_length hn]; exact hkn)
  (by intro v hv; rw [(List.mem_replicate.1 hv).2]; rfl)
 rw [hr, length_replicate];have e : ((intCells (rep m n)).toList.take m ++ List.replicate k (Value.int .i64 2) ++ (intCells (rep m n)).toList.drop (m + k)).toArray = intCells (rep (m + k) n):=by simp only [intCells, rep, List.map_append, List.map_replicate];rw [rep_cells]
 rw [e];rfl
def RepPost (n : Nat) (w : World) (e : Ending) (w' : World) : Prop :=
 ∃ g, e = .returned (.slice (some ⟨g, 0, none⟩) n n) /\ w.heap.size <= g /\ Blk w' g 3 (intCells (List.replicate n 2)) /\ Below w.heap.size w w'
theorem repeat_any (n x : Nat) (hn : n <= 1000) (w : World) (h : Blk w x 3 #[.int .i64 2]) :
  Calls Tryz.prog 178 #[.slice (some ⟨x, 0, none⟩) 1 1, .int .i64 n] w (RepPost n w):=by
 have hmu:=fun W => mul_one n hn W;have hmk:=fun W => make_ints n (by omega) W;have hu : IntKind.u64.wrap (n : Int) = (n : Int):=by rw [IntKind.wrap_u64]; omega
 have hi : IntKind.i64.wrap (n : Int) = (n : Int):=by rw [IntKind.wrap_i64]; omega
 have e0 : intCells (List.replicate n 0) = intCells (rep 0 n):=by simp [rep]
 rw [e0] at hmk;have hc : ∃ k, k = Nat.min 1 n /\ k <= 1 /\ k <= n:=⟨_, rfl, Nat.min_le_left _ _, Nat.min_le_right _ _⟩;obtain ⟨k, hk, hk1, hk2⟩:=hc;have hc0:=h.cell 0;simp only [qTa, qTb] at hc0;have hxl:=h.lt;have b1:=Blk.new w 3 (intCells (rep 0 n));have hx1 : (w.alloc (.cells (intCells (rep 0 n)) 3)).cell? ⟨x, 0, none⟩ = some (.int .i64 2):=(h.alloc _).cell 0;have hrun:=run_rep (w.alloc (.cells (intCells (rep 0 n)) 3)) w.heap.size n 0 k 1 b1 (by simpa using hk) (Nat.zero_le _) ⟨x, 0, none⟩ (fun j hj => by
  have : j = 0:=by omega
  subst this;exact hx1) n 1
 rw [Nat.zero_add, Nat.sub_zero] at hrun;have b2:=b1.setRow (intCells (rep k n));have o2 : Only (fun _ => False) w ((w.alloc (.cells (intCells (rep 0 n)) 3)).setRow w.heap.size (intCells (rep k n))):=((Only.refl _ w).alloc _).then_ (only_setRow _ _ _) (fun g e => .inr (by omega));obtain ⟨W, hW⟩ : ∃ W, W = (w.alloc (.cells (intCells (rep 0 n)) 3)).setRow w.heap.size (intCells (rep k n)):=⟨_, rfl⟩;rw [<- hW] at hrun b2 o2;have HMU:=hid hmu;have B2:=hid b2;have O2:=hid o2;have hk3 : (n <= 1 -> k = n) /\ (1 <= n -> k = 1):=by
  rw [hk];constructor
  ·intro h; exact Nat.min_eq_right h
  ·intro h; exact Nat.min_eq_left h
 have HK3:=hid hk3;obtain ⟨zs, hzs⟩ : ∃ zs, zs = intCells (rep 0 n):=⟨_, rfl⟩;rw [<- hzs] at hmk hrun;clear hmu b2 o2 hW hk hk3 h b1 hx1 e0 hzs hc0;go_enter Tryz.func178, Tryz.ntmps178;go_wp2_with fail;refine (HMU.out _).mono ?_;rintro e w2 ⟨rfl, rfl⟩;go_wp2_with fail;go_loopg [8] (n - k) (fun gk s8 wr => ∃ m : Nat, m <= n /\ n - m <= gk /\ k <= m /\ s8 = .int .i64 m /\ Aside (Blk wr w.heap.size 3 (intCells (rep m n))) /\ Aside (Only (fun _ => False) w wr))
 case atStart => exact ⟨k, by omega, by omega, Nat.le_refl _, rfl, B2.out, O2.out⟩
 case round =>
  clear hrun B2 O2;obtain ⟨m, hm, hm1, hm2, rfl, hB, hO⟩:=hrel;have hkk:=HK3.out;by_cases hmn : m < n
  ·have hlt : (m : Int) < n:=by omega
   have hlt2 : ¬ ((n : Int) < m):=by omega
   obtain ⟨q, hq⟩ : ∃ q, q = Nat.min m (n - m):=⟨_, rfl⟩;have hq1 : q <= m /\ q <= n - m:=by rw [hq]; exact ⟨Nat.min_le_left _ _, Nat.min_le_right _ _⟩
   have hq2 : 1 <= q:=by rw [hq];exact Nat.le_min.2 ⟨by omega, by omega⟩
   have hBd:=hB.out.drew;have hrun:=run_rep wr.drew w.heap.size n m q m hBd hq (by omega) ⟨w.heap.size, 0, none⟩ (fun j hj => by
    have hadd : (⟨w.heap.size, 0, none⟩ : Addr).add j = ⟨w.heap.size, 0 + j, none⟩:=by unfold Addr.add; split <;> simp_all
    rw [hadd, Nat.zero_add, hBd.cell j, intCells_get _ _ (by rw [rep_length (by omega)]; omega)]
    congr 2;rw [getD_eq_getElem?_getD, rep, getElem?_append_left (by simp; omega), List.getElem?_replicate, if_pos (by omega)];rfl) (n - m) n
   have b3 : Aside (Blk (wr.drew.setRow w.heap.size (intCells (rep (m + q) n))) w.heap.size 3 (intCells (rep (m + q) n))):=hBd.setRow _;have o3 : Aside (Only (fun _ => False) w (wr.drew.setRow w.heap.size (intCells (rep (m + q) n)))):=(hO.out.trans (only_drew _ _)).then_ (only_setRow _ _ _) (fun g e => .inr (by omega));obtain ⟨W, hW⟩ : ∃ W, W = wr.drew.setRow w.heap.size (intCells (rep (m + q) n)):=⟨_, rfl⟩;rw [<- hW] at hrun b3 o3;clear hB hO hBd hq hW hkk;obtain ⟨hq3, hq4⟩:=hq1;have hsum : IntKind.i64.wrap ((m : Int) + (q : Int)) = (m : Int) + (q : Int):=by rw [IntKind.wrap_i64]; omega
   go_wp2_with fail;go_region
   all_goals
    go_wp2_with fail;go_roundg (n - (m + q))
    case measure => omega
    case rel => exact ⟨m + q, by omega, Nat.le_refl _, by omega, by go_num, b3, o3⟩
  ·have hlt : ¬ ((m : Int) < n):=by omega
   have e : m = n:=by omega
   have hB2:=hB.out;rw [e] at hB2;have fin : RepPost n w (.returned (.slice (some ⟨w.heap.size, 0, none⟩) n n)) wr:=⟨w.heap.size, rfl, Nat.le_refl _, by simpa [rep] using hB2, hO.out.none_below⟩;have FIN:=hid fin;clear e hB2 fin hB hO hkk;go_wp2_with fail;go_ret;exact FIN.out
def blankM (c k : Int) (n : Nat) : Ob:=⟨c, k, if k = 1 then List.replicate n 2 else [], if k = 1 then [] else List.replicate n 0⟩
theorem blankM_ok {c k : Int} {n : Nat} (hc : (namM c).2 = true) (hk : k = 1 \/ k = 2) (hn : n <= 1000) : checkM (blankM c k n) = true:=by
 refine checkM_mk hc ?_;rcases hk with rfl | rfl
 ·refine .inl ⟨rfl, rfl, by simp [blankM, hn], fun v hv => ?_⟩;simp only [blankM, if_true] at hv;rw [(List.mem_replicate.1 hv).2];decide
 ·exact .inr ⟨rfl, by simp [blankM], by simp [blankM, hn]⟩
def BlankPost (c k : Int) (n : Nat) (w : World) (e : Ending) (w' : World) : Prop :=
 ∃ A ca B cb, e = .returned (.tuple #[.agg (obV (blankM c k n) A ca B cb), .bool true]) /\ ObR w' (blankM c k n) A ca B cb /\ Below w.heap.size w w' /\
  ∃ g, w.heap.size <= g /\ (k = 1 -> A = some ⟨g, 0, none⟩ /\ ca = n /\ B = none /\ cb = 0 /\ Blk w' g 3 (intCells (List.replicate n 2))) /\ (k ≠ 1 -> A = none /\ ca = 0 /\ B = some ⟨g, 0, none⟩ /\ cb = n /\ Blk w' g 5 (byteCells (List.replicate n 0)))
theorem allocs (w : World) (t1 t2 t3 : TypeId) (c1 c2 c3 : Array Value) :
  Blk (((w.alloc (.cells c1 t1)).alloc (.cells c2 t2)).alloc (.cells c3 t3)) w.heap.size t1 c1 /\ Blk (((w.alloc (.cells c1 t1)).alloc (.cells c2 t2)).alloc (.cells c3 t3)) (w.heap.size + 1) t2 c2 /\
  Blk (((w.alloc (.cells c1 t1)).alloc (.cells c2 t2)).alloc (.cells c3 t3)) (w.heap.size + 1 + 1) t3 c3 /\ Below w.heap.size w (((w.alloc (.cells c1 t1)).alloc (.cells c2 t2)).alloc (.cells c3 t3)):=by
 obtain ⟨h1, h2, h3, h4⟩:=alloc3 w t1 t2 t3 c1 c2 c3;exact ⟨h1, h2, h3, ⟨h4.os, h4.tape, h4.output, h4.size, h4.block⟩⟩
theorem blank1_any (c : Int) (n : Nat) (w : World) (hc : (namM c).2 = true) (hcc : -9223372036854775808 <= c /\ c <= 9223372036854775807) (hn : n <= 1000) :
  Calls Tryz.prog 166 #[.int .i64 c, .int .i64 1, .int .i64 n] w (BlankPost c 1 n w):=by
 have hnm:=fun W => named_any c W;rw [hc] at hnm;obtain ⟨q, hq⟩ : ∃ q, q = (namM c).1:=⟨_, rfl⟩;rw [<- hq] at hnm;have z0:=(Blk.new w 29 zeroO);have HNM:=hid hnm;unfold zeroO at *;clear hnm hq hc;go_enter Tryz.func166, Tryz.ntmps166;go_wp2_with fail;refine (HNM.out _).mono ?_;rintro e w2 ⟨rfl, rfl⟩;go_wp2_with fail;obtain ⟨b0, b1, b2, hb3⟩:=allocs w 29 29 3 #[.int .i64 0, .int .i64 0, .slice none 0 0, .slice none 0 0] #[.int .i64 c, .int .i64 1, .slice none 0 0, .slice none 0 0] #[.int .i64 2];refine (repeat_any n _ hn _ b2).mono ?_;rintro e w3 ⟨g, rfl, hg, hG, hb⟩;have hg2 : w.heap.size + 1 + 1 + 1 <= g:=by simpa using hg
 have c0:=Blk.keep b0 hb;have c1:=Blk.keep b1 hb;have hbw : Below w.heap.size w w3:=hb3.trans (hb.mono hb3.size);have q2:=c1.cell 2;have qf:=c1.frozen 2;simp only [qTa, qTb, qTc] at q2;have HC0:=hid c0;have HC1:=hid c1;have HG:=hid hG;have HBW:=hid hbw;clear c0 c1 b0 b1 b2 hb3 hb hG hbw hg z0;go_upto_region 8 with (fail);have d0:=HC0.out.far (p:=⟨w.heap.size + 1, 2, none⟩) (by dsimp only; omega) (.slice (some ⟨g, 0, none⟩) n n);have d1:=HC1.out.set_ 2 (.slice (some ⟨g, 0, none⟩) n n);have d2:=HG.out.far (p:=⟨w.heap.size + 1, 2, none⟩) (by dsimp only; omega) (.slice (some ⟨g, 0, none⟩) n n);have d3:=(only_of HBW.out (fun _ => False)).setCell (p:=⟨w.heap.size + 1, 2, none⟩) (.inr (by dsimp only; omega)) (.slice (some ⟨g, 0, none⟩) n n);generalize w3.setCell ⟨w.heap.size + 1, 2, none⟩ (.slice (some ⟨g, 0, none⟩) n n) = W at d0 d1 d2 d3 ⊢;have d1' : Blk W (w.heap.size + 1) 29 #[.int .i64 c, .int .i64 1, .slice (some ⟨g, 0, none⟩) n n, .slice none 0 0]:=d1;have k0:=d1'.cell 0;have k1:=d1'.cell 1;have k2:=d1'.cell 2;have k3:=d1'.cell 3;have l0:=d0.cell 0;have l1:=d0.cell 1;have l2:=d0.cell 2;have l3:=d0.cell 3;have lf:=d0.frozen;simp only [qTa, qTb, qTc] at k0 k1 k2 k3 l0 l1 l2 l3;have D0:=hid d0;have D2:=hid d2;have D3:=hid d3;clear d0 d1 d2 d3 d1' q2 qf HC0 HC1 HG HBW HNM;go_wp2_with fail;have h4:=only_four W w.heap.size (.int .i64 c) (.int .i64 1) (.slice (some ⟨g, 0, none⟩) n n) (.slice none 0 0);have hbl : (blankM c 1 n).ws = List.replicate n 2:=by simp [blankM]
 have hbb : (blankM c 1 n).bs = []:=by simp [blankM]
 have hob : obV (blankM c 1 n) (some ⟨g, 0, none⟩) n none 0 = #[.int .i64 c, .int .i64 1, .slice (some ⟨g, 0, none⟩) n n, .slice none 0 0]:=by unfold obV;rw [hbl, hbb, length_replicate];rfl
 refine bodyPost_ret (res_cell_tmp rfl _ _ w.heap.size 29 _ (0, 0) _ rfl (D0.out.set1111 _ _ _ _) Tryz.underlying29 rfl size29) rfl ⟨some ⟨g, 0, none⟩, n, none, 0, by rw [hob]; rfl, ?_, (D3.out.then_ h4 (fun g e => .inr (by omega))).none_below, g, by omega, fun _ => ⟨rfl, rfl, rfl, rfl, D2.out.only h4 (by omega)⟩, fun e => absurd rfl e⟩;refine ⟨?_, ?_, by rw [hbl, length_replicate]; exact Nat.le_refl _, by rw [hbb]; exact Nat.le_refl _, by omega, by omega, (fun h => by cases h), (fun _ => rfl), hcc, by show -9223372036854775808 <= (1 : Int) /\ (1 : Int) <= 9223372036854775807; omega⟩
 ·rw [hbl];exact Ints.of_blk (D2.out.only h4 (by omega)) (fun v hv => by rw [(List.mem_replicate.1 hv).2]; omega)
 ·rw [hbb];exact Byts.nil _ _
theorem blank2_any (c : Int) (n : Nat) (w : World) (hc : (namM c).2 = true) (hcc : -9223372036854775808 <= c /\ c <= 9223372036854775807) (hn : n <= 1000) :
  Calls Tryz.prog 166 #[.int .i64 c, .int .i64 2, .int .i64 n] w (BlankPost c 2 n w):=by
 have hnm:=fun W => named_any c W;rw [hc] at hnm;obtain ⟨q, hq⟩ : ∃ q, q = (namM c).1:=⟨_, rfl⟩;rw [<- hq] at hnm;have hmk:=fun W => make_bytes n (by omega) W;obtain ⟨b0, b1, b2, hb3⟩:=allocs w 29 29 5 #[.int .i64 0, .int .i64 0, .slice none 0 0, .slice none 0 0] #[.int .i64 c, .int .i64 2, .slice none 0 0, .slice (some ⟨w.heap.size + 1 + 1, 0, none⟩) n n] (byteCells (List.replicate n 0));obtain ⟨zs, hzs⟩ : ∃ zs, zs = byteCells (List.replicate n 0):=⟨_, rfl⟩;rw [<- hzs] at hmk b0 b1 b2 hb3;have HZS:=hid hzs;have HNM:=hid hnm;clear hnm hq hc hzs;go_enter Tryz.func166, Tryz.ntmps166;go_wp2_with fail;refine (HNM.out _).mono ?_;rintro e w2 ⟨rfl, rfl⟩;go_upto_region 8 with (fail);generalize ((w.alloc (.cells #[.int .i64 0, .int .i64 0, .slice none 0 0, .slice none 0 0] 29)).alloc (.cells #[.int .i64 c, .int .i64 2, .slice none 0 0, .slice (some ⟨w.heap.size + 1 + 1, 0, none⟩) n n] 29)).alloc (.cells zs 5) = W at b0 b1 b2 hb3 ⊢;have k0:=b1.cell 0;have k1:=b1.cell 1;have k2:=b1.cell 2;have k3:=b1.cell 3;have l0:=b0.cell 0;have l1:=b0.cell 1;have l2:=b0.cell 2;have l3:=b0.cell 3;have lf:=b0.frozen;simp only [qTa, qTb, qTc] at k0 k1 k2 k3 l0 l1 l2 l3;have D0:=hid b0;have D2:=hid b2;have D3:=hid hb3;clear b0 b1 b2 hb3 hmk HNM;go_wp2_with fail;have h4:=only_four W w.heap.size (.int .i64 c) (.int .i64 2) (.slice none 0 0) (.slice (some ⟨w.heap.size + 1 + 1, 0, none⟩) n n);have hbl : (blankM c 2 n).ws = []:=by simp [blankM]
 have hbb : (blankM c 2 n).bs = List.replicate n 0:=by simp [blankM]
 have hob : obV (blankM c 2 n) none 0 (some ⟨w.heap.size + 1 + 1, 0, none⟩) n = #[.int .i64 c, .int .i64 2, .slice none 0 0, .slice (some ⟨w.heap.size + 1 + 1, 0, none⟩) n n]:=by unfold obV;rw [hbl, hbb, length_replicate];rfl
 refine bodyPost_ret (res_cell_tmp rfl _ _ w.heap.size 29 _ (0, 0) _ rfl (D0.out.set1111 _ _ _ _) Tryz.underlying29 rfl size29) rfl ⟨none, 0, some ⟨w.heap.size + 1 + 1, 0, none⟩, n, by rw [hob]; rfl, ?_, ((only_of D3.out (fun _ => False)).then_ h4 (fun g e => .inr (by omega))).none_below, w.heap.size + 1 + 1, by omega, (fun e => by cases e), fun _ => ⟨rfl, rfl, rfl, rfl, by have hB:=D2.out.only h4 (by omega); rw [HZS.out] at hB; exact hB⟩⟩;refine ⟨?_, ?_, by rw [hbl]; exact Nat.le_refl _, by rw [hbb, length_replicate]; exact Nat.le_refl _, by omega, by omega, (fun _ => rfl), (fun h => by cases h), hcc, by show -9223372036854775808 <= (2 : Int) /\ (2 : Int) <= 9223372036854775807; omega⟩
 ·rw [hbl];exact Ints.nil _ _
 ·rw [hbb];have hB:=D2.out.only h4 (by omega);rw [HZS.out] at hB;exact Byts.of_blk hB (fun v hv => by rw [(List.mem_replicate.1 hv).2]; omega)
end Go.Proofs.YtgaemfghpibeeaaGreatDoor
