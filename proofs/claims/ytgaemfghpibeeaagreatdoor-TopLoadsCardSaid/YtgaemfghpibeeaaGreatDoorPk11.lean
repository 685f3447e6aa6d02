/-
  Objects are made in a paged memory, and it is sound; a flat memory is made, read and set; one word for both. Conditions: each theorem names its own.
-/
import Derived.Test.YtgaemfghpibeeaaGreatDoorPk10
import Derived.Ground.GgzProg
import Derived.Ground.SlgmProg
import Derived.Shelf.SlIterI.Nil
import Derived.Shelf.SortM.Plain
import Derived.Shelf.SortM.SortNone
import Derived.Test.YtgaemfghpibeeaaGreatDoorProg
set_option maxRecDepth 100000
set_option maxHeartbeats 6000000
open Go.Lib (hid)
open List (getElem?_eq_getElem mem_of_getElem? getElem?_append_left getElem?_append_right getD_eq_getElem?_getD eq_nil_of_length_eq_zero getElem?_eq_none_iff length_replicate take_of_length_le length_set length_append)
namespace Go.Proofs.YtgaemfghpibeeaaGreatDoor
open Go.RowKit
theorem made_any (p : LmP) (N NW NS : Nat) (S : St) (w : World) (h : LmMem w p N NW NS S) :
  Calls Tryz.prog 159 #[.pointer (some ⟨p.m, 0, none⟩)] w fun e w' => e = .returned (.int .i64 S.D.length) /\ w = w':=by
 obtain ⟨m0, -, -, -, -, -⟩:=h.look2;have hm:=secMade_any p.Q N S.D w h.disk;have HM:=hid hm;clear hm h;go_enter Tryz.func159, Tryz.ntmps159;go_wp2_with fail;refine HM.out.mono ?_;rintro e w2 ⟨rfl, rfl⟩;go_wp2_with fail;go_ret;exact ⟨rfl, rfl⟩
def NewPost (p : LmP) (N NW NS : Nat) (S : St) (Vt : List Ob) (o : Ob) (w : World) (e : Ending) (w' : World) : Prop :=
 (e = .returned (.tuple #[.int .i64 0, .int .i64 3]) /\ LmMem w' p N NW NS S /\ Step p S w p S w') \/
 (e = .returned (.tuple #[.int .i64 (2 * ((S.D.length : Int) + 1)), .int .i64 0]) /\ LmMem w' p N NW NS { S with D:=S.D ++ [o] } /\ Inv NS { S with D:=S.D ++ [o] } (Vt ++ [o]) [] (fun _ => False) (fun _ => False) /\ Step p S w p { S with D:=S.D ++ [o] } w')
theorem new_any (p : LmP) (N NW NS : Nat) (S : St) (Vt : List Ob) (c k : Int) (n : Nat) (w : World) (h : LmMem w p N NW NS S) (hI : Inv NS S Vt [] (fun _ => False) (fun _ => False)) (hc : (namM c).2 = true) (hcc : -9223372036854775808 <= c /\ c <= 9223372036854775807) (hk : k = 1 \/ k = 2) (hn : n <= 1000) (hsm : S.D.length < 2000) :
  Calls Tryz.prog 160 #[.pointer (some ⟨p.m, 0, none⟩), .int .i64 c, .int .i64 k, .int .i64 n] w (NewPost p N NW NS S Vt (blankM c k n) w):=by
 have hbl : Calls Tryz.prog 166 #[.int .i64 c, .int .i64 k, .int .i64 n] w (BlankPost c k n w):=by
  rcases hk with rfl | rfl
  ·exact blank1_any c n w hc hcc hn
  ·exact blank2_any c n w hc hcc hn
 have hok:=blankM_ok (n:=n) hc hk hn;obtain ⟨o, ho⟩ : ∃ o, o = blankM c k n:=⟨_, rfl⟩;unfold BlankPost at hbl;rw [<- ho] at hbl hok ⊢;have HBL:=hid hbl;have HOK:=hid hok;have HM:=hid h;have HI:=hid hI;clear hbl hok h hI ho hc hcc hk hn;go_enter Tryz.func160, Tryz.ntmps160;go_wp2_with fail;refine HBL.out.mono ?_;rintro e w2 ⟨A, ca, B, cb, rfl, hR, hb, -⟩;have M2:=HM.out.below hb;have hal:=(Below.refl w2.heap.size w2).alloc (Nat.le_refl _) (.cells (obV o A ca B cb) 29);have M3:=M2.below hal;have st3 : Step p S w p S (w2.alloc (.cells (obV o A ca B cb) 29)):=(Step.of (S':=S) (fun k h => h) (only_of hb _)).trans (Step.of (S':=S) (fun k h => h) (only_of hal _));have b3:=Blk.new w2 29 (obV o A ca B cb);have hR3:=hR.alloc (.cells (obV o A ca B cb) 29);have M4:=M3.drew;have hR4 : ObR (w2.alloc (.cells (obV o A ca B cb) 29)).drew o A ca B cb:=hR3.below (below_drewN (Below.refl _ _) 1);have b4:=b3.drew;obtain ⟨m0, -, -, -, -, -⟩:=M2.look2;have hml:=M2.head.lt;have HLOW:=hid M2.lt;by_cases hfit : rowsLen (rowsV S.D) + secs (encM o).length <= N
 ·have hmk:=make_ok p.Q N S.D o A ca B cb _ M4.disk hR4 HOK.out hfit hsm;clear hR hR3 hR4 M2 M3 hal;obtain ⟨n1, hn1⟩ : ∃ n, n = o.ws.length:=⟨_, rfl⟩;obtain ⟨n2, hn2⟩ : ∃ n, n = o.bs.length:=⟨_, rfl⟩;unfold obV at hmk M4 st3 b4 b3 ⊢;rw [<- hn1, <- hn2] at hmk M4 st3 b4 b3 ⊢;have c0:=b3.cell 0;have c1:=b3.cell 1;have c2:=b3.cell 2;have c3:=b3.cell 3;simp only [qTa, qTb, qTc] at c0 c1 c2 c3;have HMK:=hid hmk;have HM4:=hid M4;have ST3:=hid st3;have HB4:=hid b4;have hlow:=HM.out.lt;clear hmk M4 st3 b4 hfit b3 hb HBL hlow hn1 hn2;go_upto_region 6 with (fail);go_region_held3 (fun w' => w'.cell? ⟨p.m, 0, none⟩ = some (.pointer (some ⟨p.Q.q, 0, none⟩)) /\ w'.cell? ⟨w2.heap.size, 0, none⟩ = some (.int .i64 o.cls) /\ w'.cell? ⟨w2.heap.size, 1, none⟩ = some (.int .i64 o.kind) /\ w'.cell? ⟨w2.heap.size, 2, none⟩ = some (.slice A n1 ca) /\ w'.cell? ⟨w2.heap.size, 3, none⟩ = some (.slice B n2 cb))
   (first | exact ⟨z1, z2, z3, z4, z5⟩ | go_keep)
   (first | (go_at_call 167; refine HMK.out.mono ?_; rintro e w5 ⟨rfl, hS, hO⟩; have M5:=HM4.out.toDisk hO _ hS; obtain ⟨z1, -, -, -, -, -⟩:=M5.look2; have b5:=HB4.out.only hO (fun e => by have:=HLOW.out _ ⟨1, e⟩; omega); have z2:=b5.cell 0; have z3:=b5.cell 1; have z4:=b5.cell 2; have z5:=b5.cell 3; simp only [qTa, qTb, qTc] at z2 z3 z4 z5))
  have hsetq : ∀ k, p.Q.set k -> p.set S.sl k:=fun k hk => ⟨1, hk⟩;have hoop : ∀ W, Calls Tryz.prog 39 #[.int .i64 ((S.D.length : Int) + 1)] W fun e w' => e = .returned (.int .i64 (2 * ((S.D.length : Int) + 1))) /\ W = w':=fun W => by have h1:=oop_any ((S.D.length : Int) + 1) W;rw [oopM, if_neg (by omega)] at h1;exact h1
  have st6:=ST3.out.trans ((Step.of (S':=S) (fun k h => h) (only_drew _ _)).trans (Step.of (S:=S) (S':={ S with D:=S.D ++ [o] }) (fun k h => h) (hO.mono hsetq)));have e6 : NewPost p N NW NS S Vt o w (.returned (.tuple #[.int .i64 (2 * ((S.D.length : Int) + 1)), .int .i64 0])) w5:=.inr ⟨rfl, M5, HI.out.more o HOK.out, st6⟩;have HE:=hid e6;have HOO:=hid hoop;clear e6 st6 hoop hsetq M5 hS hO HMK HM4 ST3 HB4 HLOW HI HOK HM z1 z2 z3 z4 z5 b5 m0 c0 c1 c2 c3;go_wp2_with fail;refine (HOO.out _).mono ?_;rintro e w6 ⟨rfl, rfl⟩;go_wp2_with fail;go_ret2;exact HE.out
 ·have hmk:=make_full p.Q N S.D o A ca B cb _ M4.disk hR4 HOK.out hfit;clear hR hR3 hR4 M2 M3 hal;obtain ⟨n1, hn1⟩ : ∃ n, n = o.ws.length:=⟨_, rfl⟩;obtain ⟨n2, hn2⟩ : ∃ n, n = o.bs.length:=⟨_, rfl⟩;unfold obV at hmk M4 st3 b4 b3 ⊢;rw [<- hn1, <- hn2] at hmk M4 st3 b4 b3 ⊢;have c0:=b3.cell 0;have c1:=b3.cell 1;have c2:=b3.cell 2;have c3:=b3.cell 3;simp only [qTa, qTb, qTc] at c0 c1 c2 c3;have HMK:=hid hmk;have HM4:=hid M4;have ST3:=hid st3;have HB4:=hid b4;have hlow:=HM.out.lt;clear hmk M4 st3 b4 hfit b3 hb HBL hlow hn1 hn2;go_upto_region 6 with (fail);go_region_held3 (fun w' => w'.cell? ⟨p.m, 0, none⟩ = some (.pointer (some ⟨p.Q.q, 0, none⟩)) /\ w'.cell? ⟨w2.heap.size, 0, none⟩ = some (.int .i64 o.cls) /\ w'.cell? ⟨w2.heap.size, 1, none⟩ = some (.int .i64 o.kind) /\ w'.cell? ⟨w2.heap.size, 2, none⟩ = some (.slice A n1 ca) /\ w'.cell? ⟨w2.heap.size, 3, none⟩ = some (.slice B n2 cb))
   (first | exact ⟨z1, z2, z3, z4, z5⟩ | go_keep)
   (first | (go_at_call 167; refine HMK.out.mono ?_; rintro e w5 ⟨rfl, hbw⟩; have M5:=HM4.out.below hbw; obtain ⟨z1, -, -, -, -, -⟩:=M5.look2; have b5:=HB4.out.keep hbw; have z2:=b5.cell 0; have z3:=b5.cell 1; have z4:=b5.cell 2; have z5:=b5.cell 3; simp only [qTa, qTb, qTc] at z2 z3 z4 z5))
  have hoop : ∀ W, Calls Tryz.prog 39 #[.int .i64 0] W fun e w' => e = .returned (.int .i64 0) /\ W = w':=fun W => oop_any 0 W;have st6:=ST3.out.trans ((Step.of (S':=S) (fun k h => h) (only_drew _ _)).trans (Step.of (S:=S) (S':=S) (fun k h => h) (only_of hbw _)));have e6 : NewPost p N NW NS S Vt o w (.returned (.tuple #[.int .i64 0, .int .i64 3])) w5:=.inl ⟨rfl, M5, st6⟩;have HE:=hid e6;have HOO:=hid hoop;clear e6 st6 hoop M5 hbw HMK HM4 ST3 HB4 HLOW HI HOK HM z1 z2 z3 z4 z5 b5 m0 c0 c1 c2 c3;go_wp2_with fail;refine (HOO.out _).mono ?_;rintro e w6 ⟨rfl, rfl⟩;go_wp2_with fail;go_ret2;exact HE.out
end Go.Proofs.YtgaemfghpibeeaaGreatDoor
namespace Go.Proofs
open Go.Shelf
def Tryz.keysA_ren : Go.Shelf.Ren:=⟨fun | 7 => 63 | 10 => 93 | n => n, fun | 23 => 110 | 26 => 3 | 3 => 143 | 28 => 155 | 0 => 0 | 27 => 154 | 33 => 87 | 4 => 4 | n => n, fun | n => n⟩
theorem Tryz.keysA : Go.Proofs.SlLaysZI.n7 Tryz.prog Tryz.keysA_ren:={
 mixed:=by kernel_rfl
 f7:=⟨Tryz.f63.name, by decide, Tryz.func63.trans (congrArg some (by kernel_rfl))⟩
 f10:=⟨Tryz.f93.name, by decide, Tryz.func93.trans (congrArg some (by kernel_rfl))⟩
 t0:=Tryz.underlying0
 a0:=Tryz.isAgg0
 z0:=Tryz.sizeOf0
 v0:=Tryz.zeroValue0
 t4:=Tryz.underlying4
 a4:=Tryz.isAgg4
 z4:=Tryz.sizeOf4
 v4:=Tryz.zeroValue4
 t23:=Tryz.underlying110
 a23:=Tryz.isAgg110
 z23:=Tryz.sizeOf110
 v23:=Tryz.zeroValue110
 t26:=Tryz.underlying3
 a26:=Tryz.isAgg3
 z26:=Tryz.sizeOf3
 v26:=Tryz.zeroValue3
 t27:=Tryz.underlying154
 a27:=Tryz.isAgg154
 z27:=Tryz.sizeOf154
 v27:=Tryz.zeroValue154
 t28:=Tryz.underlying155
 a28:=Tryz.isAgg155
 z28:=Tryz.sizeOf155
 v28:=Tryz.zeroValue155
 t33:=Tryz.underlying87
 a33:=Tryz.isAgg87
 z33:=Tryz.sizeOf87
 v33:=Tryz.zeroValue87 }
def Tryz.sortedA_ren : Go.Shelf.Ren:=⟨fun | 6 => 62 | 8 => 92 | 9 => 70 | 11 => 116 | 13 => 103 | 12 => 102 | 23 => 128 | 24 => 129 | 14 => 119 | 15 => 120 | 16 => 121 | 17 => 122 | 18 => 123 | 19 => 124 | 20 => 125 | 21 => 126 | 22 => 127 | 25 => 134 | 26 => 135 | 27 => 136 | 28 => 137 | 29 => 138 | 30 => 139 | 31 => 142 | n => n, fun | 26 => 3 | 28 => 155 | 24 => 26 | 0 => 0 | 3 => 3 | 37 => 163 | 48 => 244 | 50 => 233 | 4 => 4 | 40 => 237 | 39 => 236 | 45 => 90 | 5 => 5 | 9 => 9 | 51 => 250 | 55 => 254 | 57 => 258 | 58 => 186 | 33 => 87 | n => n, fun | n => n⟩
theorem Tryz.sortedA : Go.Proofs.SlLaysZI.n6 Tryz.prog Tryz.sortedA_ren:={
 mixed:=by kernel_rfl
 f6:=⟨Tryz.f62.name, by decide, Tryz.func62.trans (congrArg some (by kernel_rfl))⟩
 f8:=⟨Tryz.f92.name, by decide, Tryz.func92.trans (congrArg some (by kernel_rfl))⟩
 f11:=⟨Tryz.f116.name, by decide, Tryz.func116.trans (congrArg some (by kernel_rfl))⟩
 t0:=Tryz.underlying0
 a0:=Tryz.isAgg0
 z0:=Tryz.sizeOf0
 v0:=Tryz.zeroValue0
 t24:=Tryz.underlying26
 a24:=Tryz.isAgg26
 z24:=Tryz.sizeOf26
 v24:=Tryz.zeroValue26
 t26:=Tryz.underlying3
 a26:=Tryz.isAgg3
 z26:=Tryz.sizeOf3
 v26:=Tryz.zeroValue3
 t28:=Tryz.underlying155
 a28:=Tryz.isAgg155
 z28:=Tryz.sizeOf155
 v28:=Tryz.zeroValue155
 i26:=by kernel_rfl }
def Tryz.sortA_ren : Go.Shelf.Ren:=⟨fun | 5 => 70 | 8 => 103 | 7 => 102 | 19 => 128 | 20 => 129 | 10 => 119 | 11 => 120 | 12 => 121 | 13 => 122 | 14 => 123 | 15 => 124 | 16 => 125 | 17 => 126 | 18 => 127 | 30 => 134 | 31 => 135 | 32 => 136 | 33 => 137 | 34 => 138 | 35 => 139 | 40 => 142 | n => n, fun | 23 => 26 | 25 => 3 | 3 => 3 | 32 => 163 | 22 => 26 | 0 => 0 | 44 => 244 | 46 => 233 | 4 => 4 | 36 => 237 | 35 => 236 | 41 => 90 | 5 => 5 | 9 => 9 | 53 => 250 | 57 => 254 | 63 => 258 | 64 => 186 | n => n, fun | n => n⟩
theorem Tryz.sortA : Go.Proofs.SlLaysM.n5 Tryz.prog Tryz.sortA_ren:={
 mixed:=by kernel_rfl
 f5:=⟨Tryz.f70.name, by decide, Tryz.func70.trans (congrArg some (by kernel_rfl))⟩
 f7:=⟨Tryz.f102.name, by decide, Tryz.func102.trans (congrArg some (by kernel_rfl))⟩
 f8:=Tryz.func103.trans (congrArg some (by kernel_rfl))
 f10:=⟨Tryz.f119.name, by decide, Tryz.func119.trans (congrArg some (by kernel_rfl))⟩
 f11:=⟨Tryz.f120.name, by decide, Tryz.func120.trans (congrArg some (by kernel_rfl))⟩
 f12:=⟨Tryz.f121.name, by decide, Tryz.func121.trans (congrArg some (by kernel_rfl))⟩
 f13:=⟨Tryz.f122.name, by decide, Tryz.func122.trans (congrArg some (by kernel_rfl))⟩
 f14:=⟨Tryz.f123.name, by decide, Tryz.func123.trans (congrArg some (by kernel_rfl))⟩
 f15:=⟨Tryz.f124.name, by decide, Tryz.func124.trans (congrArg some (by kernel_rfl))⟩
 f16:=⟨Tryz.f125.name, by decide, Tryz.func125.trans (congrArg some (by kernel_rfl))⟩
 f17:=⟨Tryz.f126.name, by decide, Tryz.func126.trans (congrArg some (by kernel_rfl))⟩
 f18:=⟨Tryz.f127.name, by decide, Tryz.func127.trans (congrArg some (by kernel_rfl))⟩
 f19:=Tryz.func128.trans (congrArg some (by kernel_rfl))
 f20:=Tryz.func129.trans (congrArg some (by kernel_rfl))
 f30:=⟨Tryz.f134.name, by decide, Tryz.func134.trans (congrArg some (by kernel_rfl))⟩
 f31:=Tryz.func135.trans (congrArg some (by kernel_rfl))
 f32:=Tryz.func136.trans (congrArg some (by kernel_rfl))
 f33:=⟨Tryz.f137.name, by decide, Tryz.func137.trans (congrArg some (by kernel_rfl))⟩
 f34:=⟨Tryz.f138.name, by decide, Tryz.func138.trans (congrArg some (by kernel_rfl))⟩
 f35:=⟨Tryz.f139.name, by decide, Tryz.func139.trans (congrArg some (by kernel_rfl))⟩
 f40:=⟨Tryz.f142.name, by decide, Tryz.func142.trans (congrArg some (by kernel_rfl))⟩
 t0:=Tryz.underlying0
 a0:=Tryz.isAgg0
 z0:=Tryz.sizeOf0
 v0:=Tryz.zeroValue0
 t3:=Tryz.underlying3
 a3:=Tryz.isAgg3
 z3:=Tryz.sizeOf3
 v3:=Tryz.zeroValue3
 t4:=Tryz.underlying4
 a4:=Tryz.isAgg4
 z4:=Tryz.sizeOf4
 v4:=Tryz.zeroValue4
 t5:=Tryz.underlying5
 a5:=Tryz.isAgg5
 z5:=Tryz.sizeOf5
 v5:=Tryz.zeroValue5
 t9:=Tryz.underlying9
 a9:=Tryz.isAgg9
 z9:=Tryz.sizeOf9
 v9:=Tryz.zeroValue9
 t22:=Tryz.underlying26
 a22:=Tryz.isAgg26
 z22:=Tryz.sizeOf26
 v22:=Tryz.zeroValue26
 t23:=Tryz.underlying26
 a23:=Tryz.isAgg26
 z23:=Tryz.sizeOf26
 v23:=Tryz.zeroValue26
 t25:=Tryz.underlying3
 a25:=Tryz.isAgg3
 z25:=Tryz.sizeOf3
 v25:=Tryz.zeroValue3
 t32:=Tryz.underlying163
 a32:=Tryz.isAgg163
 z32:=Tryz.sizeOf163
 v32:=Tryz.zeroValue163
 t35:=Tryz.underlying236
 a35:=Tryz.isAgg236
 z35:=Tryz.sizeOf236
 v35:=Tryz.zeroValue236
 t36:=Tryz.underlying237
 a36:=Tryz.isAgg237
 z36:=Tryz.sizeOf237
 v36:=Tryz.zeroValue237
 t41:=Tryz.underlying90
 a41:=Tryz.isAgg90
 z41:=Tryz.sizeOf90
 v41:=Tryz.zeroValue90
 t44:=Tryz.underlying244
 a44:=Tryz.isAgg244
 z44:=Tryz.sizeOf244
 v44:=Tryz.zeroValue244
 t46:=Tryz.underlying233
 a46:=Tryz.isAgg233
 z46:=Tryz.sizeOf233
 v46:=Tryz.zeroValue233
 t53:=Tryz.underlying250
 a53:=Tryz.isAgg250
 z53:=Tryz.sizeOf250
 v53:=Tryz.zeroValue250
 t57:=Tryz.underlying254
 a57:=Tryz.isAgg254
 z57:=Tryz.sizeOf254
 v57:=Tryz.zeroValue254
 t63:=Tryz.underlying258
 a63:=Tryz.isAgg258
 z63:=Tryz.sizeOf258
 v63:=Tryz.zeroValue258
 t64:=Tryz.underlying186
 a64:=Tryz.isAgg186
 z64:=Tryz.sizeOf186
 v64:=Tryz.zeroValue186 }
end Go.Proofs
namespace Go.Proofs.YtgaemfghpibeeaaGreatDoor
open Go.RowKit Go.Maps Go.Sort Go.Shelf
theorem sortsA (m : Nat) : AnyZI.SortsIn Tryz.prog Tryz.sortedA_ren Fence.wide m :=
 ⟨fun blk off cap ss W hH hblk hsz => callsIn_wide.2 (AnyM.slices_Sort_int Tryz.sortA blk off cap ss W hH hblk hsz),
  fun p cap W => callsIn_wide.2 (AnyM.slices_Sort_int_none Tryz.sortA p cap W)⟩
def upto (n : Nat) : List Int:=(List.range n).map fun (i : Nat) => ((i : Int) + 1)
theorem secIds_keys (Q : SecP) (N : Nat) (V : List Ob) (w : World) (h : SecAt w Q N V) (D : DataW Value) (hM : MapAt w 3 Q.t D) (hsz : Maps.size D <= 2000) :
  Calls Tryz.prog 33 #[.pointer (some ⟨Q.q, 0, none⟩)] w fun e w' => ∃ (v : Value) (ss : List Int), e = .returned v /\ ss.Perm (intKeys D) /\
   w'.ownsRow w.heap.size 3 1 v ss.length ((ss.mergeSort (fun x y => decide (x <= y))).map encZ) /\ Below w.heap.size w w':=by
 refine (callsIn_wide (n:=6)).1 ?_;have hown : w.ownsMap Tryz.prog 3 heldR Q.t (Maps.size D) D:=hM;have hbl:=hown.lt;have hmax : Maps.size D <= maxLen:=by unfold maxLen; omega
 have hseq : SeqGives Fence.wide 2 Tryz.prog 93 #[.pointer (some ⟨w.heap.size, 0, none⟩)] encZ (fun ss => ss.Perm (intKeys D)) (Maps.size D) (w.alloc (.cells #[.map (some Q.t)] 110)) :=
  AnyZI.keys_gives (ρ:=Tryz.keysA_ren) { Tryz.keysA with } Fence.wide _ trivial rfl (by omega) w.heap.size Q.t (Maps.size D) D _ (by simp) (by simp) (by
   obtain ⟨es, clock, hb, Ft, hs, hD⟩:=hown;exact ⟨es, clock, (Below.heap_alloc _ _ Q.t hbl).trans hb, Ft, hs, hD⟩)
 have cK : ∀ mb W, CallsIn Fence.wide 5 Tryz.prog 63 #[.map mb] W fun e w' => e = .returned (.func (.func 93) #[] #[.pointer (some ⟨W.heap.size, 0, none⟩)]) /\ w' = W.alloc (.cells #[.map mb] 110):=fun mb W => AnyZI.keys_in Tryz.keysA Fence.wide 5 trivial rfl mb W;have cS:=AnyZI.sorted_in Tryz.sortedA Fence.wide 5 trivial trivial trivial trivial rfl (by omega) (sortsA _) (enters_of Tryz.func70 (by kernel_rfl) rfl) 93 #[.pointer (some ⟨w.heap.size, 0, none⟩)] trivial (enters_of Tryz.func93 (by kernel_rfl) rfl) _ _ hmax (by omega) _ hseq;change CallsIn _ _ Tryz.prog 62 _ _ _ at cS;have hfK : Fence.wide.fn 63:=trivial;have hfS : Fence.wide.fn 62:=trivial;have c1:=h.head.cell 1;simp only [qTa, qTb, qTc] at c1;clear hseq h hM hown;refine callsIn_of_wp Tryz.func33 rfl trivial ?_ rfl;simp only [Tryz.ntmps33, List.size_toArray, List.length_cons, List.length_nil, Nat.reduceAdd, Nat.reduceSub, Array.replicate_succ, Array.replicate_zero, List.push_toArray, List.append_toArray, List.nil_append, List.cons_append]
 gi_wp2_with (first
  | (gi_at_call 63; refine (cK _ _).mono ?_; rintro e w' ⟨rfl, rfl⟩)
  | (gi_at_call 62; refine cS.mono ?_; rintro e w' ⟨v, ss, rfl, hS, hrow, hnil, hb⟩))
 go_ret;exact ⟨v, ss, rfl, hS, ownsRow_base_a hrow (by simp), ((Below.refl _ w).alloc (Nat.le_refl _) _).trans (hb.mono (by simp))⟩
theorem upto_mem (n : Nat) (x : Int) : x ∈ upto n ↔ 1 <= x /\ x <= n:=by
 unfold upto;rw [List.mem_map];constructor
 ·rintro ⟨i, hi, rfl⟩;rw [List.mem_range] at hi;omega
 ·intro h;exact ⟨(x - 1).toNat, by rw [List.mem_range]; omega, by omega⟩
theorem upto_rise (n : Nat) : (upto n).Pairwise (· < ·):=by unfold upto;rw [List.pairwise_map];exact List.pairwise_lt_range.imp (fun h => by omega)
theorem upto_length (n : Nat) : (upto n).length = n:=by simp [upto]
theorem sort_upto {n : Nat} {ss : List Int} (h : ss.Perm (upto n)) : (ss.mergeSort fun x y => decide (x <= y)) = upto n:=by have e:=mergeSort_of_perm_i h;rw [show (ss.mergeSort fun x y => decide (x <= y)) = ss.mergeSort leI from rfl, e];exact List.mergeSort_of_pairwise ((upto_rise n).imp (fun h => by simp only [leI, decide_eq_true_eq]; omega))
theorem secIds_any (Q : SecP) (N : Nat) (V : List Ob) (w : World) (h : SecAt w Q N V) :
  Calls Tryz.prog 33 #[.pointer (some ⟨Q.q, 0, none⟩)] w fun e w' => ∃ v, e = .returned v /\ OwnsI w' w.heap.size v (upto V.length) /\ Below w.heap.size w w':=by
 obtain ⟨D, hM, hsz, hat, hno⟩:=h.table;have hsm:=h.small;refine (secIds_keys Q N V w h D hM (by omega)).mono ?_;rintro e w' ⟨v, ss, rfl, hp, hrow, hb⟩;have hc : CollectedI D (fun _ => false) (upto V.length):=by
  refine ⟨(upto_rise _).imp (fun h => by omega), fun x => ?_⟩;rw [upto_mem];constructor
  ·rintro ⟨h1, h2⟩;refine ⟨?_, rfl⟩;obtain ⟨i, rfl⟩ : ∃ i : Nat, x = ((i + 1 : Nat) : Int):=⟨(x - 1).toNat, by omega⟩;have hil : i < V.length:=by omega
   exact (hat i V[i] (getElem?_eq_getElem hil)).1
  ·rintro ⟨h1, _⟩;by_cases hx : 1 <= x /\ x <= V.length
   ·exact hx
   ·rw [hno x (by omega)] at h1; cases h1
 have hp2:=hc.perm (World.ownsMap.mono hM (Nat.le_refl _)) law3 Tryz.underlying3 (fun _ => rfl);have hs:=sort_upto (hp.trans hp2.symm);rw [hs] at hrow;have hl : ss.length = (upto V.length).length:=(hp.trans hp2.symm).length_eq;rw [hl] at hrow;exact ⟨v, rfl, hrow, hb⟩
theorem namM_even (i : Nat) (h : i < 1073741824) : (namM (2 * (i : Int))).1 = (i : Int):=by
 unfold namM;split
 ·omega
 ·dsimp only; omega
def nextV (n i : Nat) : Value:=if i < n then .tuple #[.int .i64 (2 * ((i : Int) + 1)), .bool true] else .tuple #[.int .i64 0, .bool false]
theorem next_any (p : LmP) (N NW NS i : Nat) (S : St) (w : World) (h : LmMem w p N NW NS S) (hi : i < 1073741823) (hl : S.D.length <= 2000) :
  Calls Tryz.prog 161 #[.pointer (some ⟨p.m, 0, none⟩), .int .i64 (2 * (i : Int))] w fun e w' => e = .returned (nextV S.D.length i) /\ Below w.heap.size w w':=by
 obtain ⟨m0, -, -, -, -, -⟩:=h.look2;have hnm:=named_any (2 * (i : Int)) w;rw [namM_even i (by omega)] at hnm;have hid:=secIds_any p.Q N S.D w h.disk;obtain ⟨b, hb⟩ : ∃ b, b = (namM (2 * (i : Int))).2:=⟨_, rfl⟩;rw [<- hb] at hnm;obtain ⟨n, hn⟩ : ∃ n, n = S.D.length:=⟨_, rfl⟩;rw [<- hn] at hid hl ⊢;have HNM:=Lib.hid hnm;have HID:=Lib.hid hid;clear hnm hid hb hn h;go_enter Tryz.func161, Tryz.ntmps161;go_wp2_with fail;refine HNM.out.mono ?_;rintro e w2 ⟨rfl, rfl⟩;go_wp2_with fail;refine HID.out.mono ?_;rintro e w2 ⟨v, rfl, hv, hbw⟩;obtain ⟨A, cap, rfl, hlc, hc63, hI, -⟩:=hv.reads (fun x hx => by have:=(upto_mem n x).1 hx; omega);have hul:=upto_length n;rw [hul] at hlc;have HI:=Lib.hid hI;have HB:=Lib.hid hbw;have hsl : (Value.slice A (upto n).length cap) = .slice A n cap:=by rw [hul]
 rw [hsl];clear hv hI hbw HNM HID hul hsl;go_wp2_with fail;go_loopg [23] n (fun gk s23 wr => ∃ j : Nat, j + gk = n /\ j <= i /\ s23 = .int .i64 j /\ w2 = wr)
 case atStart => exact ⟨0, by omega, by omega, rfl, rfl⟩
 case round =>
  obtain ⟨j, hj, hji, rfl, rfl⟩:=hrel;cases gk with
  | zero =>
   have hjn : ¬ ((j : Int) < n):=by omega
   have fin : Ending.returned (.tuple #[.int .i64 0, .bool false]) = .returned (nextV n i) /\ Below w.heap.size w w2:=⟨by rw [nextV, if_neg (by omega)], HB.out⟩;have FIN:=Lib.hid fin;clear fin;go_wp2_with fail;go_ret2;exact FIN.out
  | succ g =>
   have hjn : (j : Int) < n:=by omega
   have hx : (upto n)[j]? = some ((j : Int) + 1):=by unfold upto; rw [List.getElem?_map, List.getElem?_range (by omega)]; rfl
   obtain ⟨_, bb, off, rfl, _, c0⟩:=HI.out j _ hx;have hoop:=fun W => oop_any ((j : Int) + 1) W;by_cases hji2 : j = i
   ·have hgt : (i : Int) < (j : Int) + 1:=by omega
    have e1 : oopM ((j : Int) + 1) = 2 * ((i : Int) + 1):=by rw [oopM, if_neg (by omega)]; omega
    simp only [e1] at hoop;have fin : Ending.returned (.tuple #[.int .i64 (2 * ((i : Int) + 1)), .bool true]) = .returned (nextV n i) /\ Below w.heap.size w w2:=⟨by rw [nextV, if_pos (by omega)], HB.out⟩;have FIN:=Lib.hid fin;have HOO:=Lib.hid hoop;clear fin hoop e1 hji2 hx;go_wp2_with fail;refine (HOO.out _).mono ?_;rintro e w3 ⟨rfl, rfl⟩;go_wp2_with fail;go_ret2;exact FIN.out
   ·have hgt : ¬ ((i : Int) < (j : Int) + 1):=by omega
    clear hoop hx;go_wp2_with fail;go_roundg g
    case measure => omega
    case rel => exact ⟨j + 1, by omega, by omega, by go_num, rfl⟩
theorem getD_rep0 (n k : Nat) : (List.replicate n (0 : Int)).getD k 0 = 0:=by rw [getD_eq_getElem?_getD, List.getElem?_replicate];split <;> rfl
def slt0 : Slt:=⟨none, 0, 0⟩
def st0 (NS : Nat) : St:={ D:=[], hc:=0, V:=fun _ => none, t:=true, ids:=List.replicate (NS + 1) 0, L:=Ck.fresh (NS + 1), hand:=0, sl:=List.replicate (NS + 1) slt0, busy:=0 }
theorem slt0_of {n s : Nat} {x : Slt} (h : (List.replicate n slt0)[s]? = some x) : x = slt0:=by
 rw [List.getElem?_replicate] at h;split at h
 ·exact (Option.some.inj h).symm
 ·cases h
theorem res0 (n s : Nat) : resOf (List.replicate n slt0) s = none:=by
 unfold resOf;cases h : (List.replicate n slt0)[s]? with
 | none => rfl
 | some x => rw [slt0_of h]; rfl
theorem inv_start (NS : Nat) (h : NS <= 255) : Inv NS (st0 NS) [] [] (fun _ => False) (fun _ => False):=by
 refine { lenS:=by simp [st0], small:=h, lenV:=rfl, good:=(fun v hv => by cases hv), ids:=?_, zero:=?_, here:=?_, away:=?_, blocks:=?_, held:=?_, nopend:=?_, refs:=?_, named:=?_, used:=?_, idr:=?_, clock:=?_, hand:=?_, extok:=(fun y hy => by cases hy), busy:=Nat.zero_le _, count:=Nat.zero_le _ }
 ·intro s x hx;rw [slt0_of hx];exact (getD_rep0 _ _).symm
 ·intro x hx;rw [slt0_of hx];exact ⟨rfl, rfl⟩
 ·intro s x r hx hr;rw [slt0_of hx] at hr;cases hr
 ·intro i o v ho;simp [st0] at ho
 ·intro s s' r r' hr;rw [show (st0 NS).sl = List.replicate (NS + 1) slt0 from rfl, res0] at hr;cases hr
 ·intro k ws hk;cases hk
 ·intro s r hr;rw [show (st0 NS).sl = List.replicate (NS + 1) slt0 from rfl, res0] at hr;cases hr
 ·intro s x hx _;rw [slt0_of hx];have e : cnt (st0 NS).V (st0 NS).sl (2 * (s : Int)) = 0:=by
   unfold cnt;have : ((st0 NS).sl.map fun x => cntS (st0 NS).V x (2 * (s : Int))) = List.replicate (NS + 1) 0:=by
    show (List.replicate (NS + 1) slt0).map _ = _
    rw [List.map_replicate];rfl
   rw [this];simp
  rw [e];rfl
 ·intro s x hx _ _;rw [slt0_of hx];exact ⟨rfl, rfl⟩
 ·intro s x hx _ h0;rw [slt0_of hx] at h0;exact absurd rfl h0
 ·intro s x hx h0;rw [slt0_of hx] at h0;exact absurd rfl h0
 ·intro s x pl hx hp;rw [slt0_of hx];have hp2 : (List.replicate (NS + 1) (⟨false, false, false⟩ : Ck.Pl))[s]? = some pl:=hp;rw [List.getElem?_replicate] at hp2;split at hp2
  ·cases hp2; exact ⟨rfl, rfl⟩
  ·cases hp2
 ·show 0 < (Ck.fresh (NS + 1)).length
  simp [Ck.fresh]
theorem Tryz.info82 : (Tryz.prog.info? 82).map (fun i => (i.zero, i.size, i.bytes)) = some (some (.agg #[.pointer none, .int .i64 0, .int .i64 0]), 3, 24):=by kernel_rfl
theorem slt0_cells (n : Nat) : madeCells (Value.cells (.agg #[.pointer none, .int .i64 0, .int .i64 0])) (n * 3) = (sltCells (List.replicate n slt0)).toArray:=by
 apply Array.ext
 ·show (madeCells _ (n * 3)).size = (sltCells (List.replicate n slt0)).toArray.size
  have h9 : (sltCells (List.replicate n slt0)).toArray.size = n * 3:=by rw [List.size_toArray, sltCells_length, length_replicate]
  rw [h9];simp [madeCells]
 ·intro i h1 h2;have hn : i < n * 3:=by simpa [madeCells] using h1
  have hg:=sltCells_get (List.replicate n slt0) (i / 3) slt0 (by rw [List.getElem?_replicate, if_pos (by omega)]);have h3 : i % 3 = 0 \/ i % 3 = 1 \/ i % 3 = 2:=by omega
  rw [List.getElem_toArray];have key : ∀ v, (sltCells (List.replicate n slt0))[i]? = some v -> (madeCells (Value.cells (.agg #[.pointer none, .int .i64 0, .int .i64 0])) (n * 3))[i] = v -> (madeCells (Value.cells (.agg #[.pointer none, .int .i64 0, .int .i64 0])) (n * 3))[i] = (sltCells (List.replicate n slt0))[i]'(by simpa using h2):=by intro v hv e;rw [e];rw [getElem?_eq_getElem (by simpa using h2)] at hv;exact (Option.some.inj hv).symm
  rcases h3 with h | h | h
  ·refine key _ (by have:=hg.1; rwa [show i / 3 * 3 = i by omega] at this) ?_;simp [madeCells, Value.cells, h, slt0]
  ·refine key _ (by have:=hg.2.1; rwa [show i / 3 * 3 + 1 = i by omega] at this) ?_;simp [madeCells, Value.cells, h, slt0]
  ·refine key _ (by have:=hg.2.2; rwa [show i / 3 * 3 + 2 = i by omega] at this) ?_;simp [madeCells, Value.cells, h, slt0]
theorem loomNew_any (N NW NS : Nat) (w : World) (hN : N < 20000) (hW : NW <= 32768) (hS : NS <= 255) :
  Calls Tryz.prog 5 #[.int .i64 N, .int .i64 NW, .int .i64 NS] w fun e w' => ∃ p : LmP, e = .returned (.tuple #[.pointer (some ⟨p.m, 0, none⟩), .int .i64 0]) /\ LmMem w' p N NW NS (st0 NS) /\ (∀ k, p.set (st0 NS).sl k -> w.heap.size <= k) /\ Below w.heap.size w w':=by
 obtain ⟨i0, hi, hz0, hz1, hz2⟩:=info_parts Tryz.info82;have hmk:=fun W => Ck.run_make_rowN (P:=Tryz.prog) 60 82 i0 _ Tryz.underlying60 hi hz0 .i64 .i64 (NS + 1) (NS + 1) (Nat.le_refl _) (by rw [hz2]; omega) (by omega) W;rw [hz1, slt0_cells] at hmk;have hmk : ∀ W : World, (Instr.makeSlice 60 (.int .i64 ((NS : Int) + 1)) (.int .i64 ((NS : Int) + 1))).run Tryz.prog W = .ok (.slice (some ⟨W.heap.size, 0, none⟩) (NS + 1) (NS + 1)) (W.alloc (.cells (sltCells (List.replicate (NS + 1) slt0)).toArray 82)):=hmk;have c1:=secNew_any N hN w;have HC1:=hid c1;clear hi hz0 hz1 hz2 c1;go_enter Tryz.func5, Tryz.ntmps5;go_wp2_with fail;refine HC1.out.mono ?_;rintro e w1 ⟨Q, rfl, hQ, hQs, hb1⟩;have HC2:=hid (heapNew_any NW hW w1);go_wp2_with fail;refine HC2.out.mono ?_;rintro e w2 ⟨H, rfl, hH, hHs, hb2⟩;have HC3:=hid (namesNew_any NS hS w2);go_wp2_with fail;refine HC3.out.mono ?_;rintro e w3 ⟨T, rfl, hT, hTs, hb3⟩;have HC4:=hid (Ck.new_ok w3 (NS + 1) (by omega));rw [Int.natCast_add] at HC4;go_wp2_with fail;refine HC4.out.mono ?_;rintro e w4 ⟨c, lb, rfl, hC, hb4, hc1, hc2⟩;obtain ⟨zs, hzs⟩ : ∃ zs, zs = (sltCells (List.replicate (NS + 1) slt0)).toArray:=⟨_, rfl⟩;rw [<- hzs] at hmk;have s1:=Blk.new w4 82 zs;have s2:=s1.alloc (.cells #[.pointer (some ⟨Q.q, 0, none⟩), .pointer (some ⟨H.h, 0, none⟩), .pointer (some ⟨T.t, 0, none⟩), .pointer (some ⟨c, 0, none⟩), .slice (some ⟨w4.heap.size, 0, none⟩) (NS + 1) (NS + 1), .int .i64 0] 62);have s3:=Blk.new2 w4 (.cells zs 82) 62 #[.pointer (some ⟨Q.q, 0, none⟩), .pointer (some ⟨H.h, 0, none⟩), .pointer (some ⟨T.t, 0, none⟩), .pointer (some ⟨c, 0, none⟩), .slice (some ⟨w4.heap.size, 0, none⟩) (NS + 1) (NS + 1), .int .i64 0];have b5:=((Below.refl w4.heap.size w4).alloc (Nat.le_refl _) (.cells zs 82)).alloc (by simp) (.cells #[.pointer (some ⟨Q.q, 0, none⟩), .pointer (some ⟨H.h, 0, none⟩), .pointer (some ⟨T.t, 0, none⟩), .pointer (some ⟨c, 0, none⟩), .slice (some ⟨w4.heap.size, 0, none⟩) (NS + 1) (NS + 1), .int .i64 0] 62);obtain ⟨W, hW⟩ : ∃ W, W = (w4.alloc (.cells zs 82)).alloc (.cells #[.pointer (some ⟨Q.q, 0, none⟩), .pointer (some ⟨H.h, 0, none⟩), .pointer (some ⟨T.t, 0, none⟩), .pointer (some ⟨c, 0, none⟩), .slice (some ⟨w4.heap.size, 0, none⟩) (NS + 1) (NS + 1), .int .i64 0] 62):=⟨_, rfl⟩;rw [<- hW] at s2 s3 b5;have b4:=hb4.trans (b5.mono hb4.size);have b3:=hb3.trans (b4.mono hb3.size);have b2:=hb2.trans (b3.mono hb2.size);have b1:=hb1.trans (b2.mono hb1.size);have l1:=hQ.lt;have l2:=hH.lt;have l3:=hT.lt;have l4:=hC.head.lt;have l5:=hC.body.lt;have z1:=hb1.size;have z2:=hb2.size;have z3:=hb3.size;have z4:=hb4.size;have band : ∀ i k, part ⟨w4.heap.size + 1, Q, H, T, c, lb, w4.heap.size⟩ (st0 NS).sl i k -> (i = 0 /\ k = w4.heap.size + 1) \/ (i = 1 /\ w.heap.size <= k /\ k < w1.heap.size) \/ (i = 2 /\ w1.heap.size <= k /\ k < w2.heap.size) \/ (i = 3 /\ w2.heap.size <= k /\ k < w3.heap.size) \/ (i = 4 /\ w3.heap.size <= k /\ k < w4.heap.size) \/ (i = 5 /\ k = w4.heap.size):=by
  intro i k hk
  match i, hk with
  | 0, hk => exact .inl ⟨rfl, hk⟩
  | 1, hk => exact .inr (.inl ⟨rfl, hQs k hk, l1 k hk⟩)
  | 2, hk => exact .inr (.inr (.inl ⟨rfl, hHs k hk, l2 k hk⟩))
  | 3, hk => exact .inr (.inr (.inr (.inl ⟨rfl, hTs k hk, l3 k hk⟩)))
  | 4, hk =>
   refine .inr (.inr (.inr (.inr (.inl ⟨rfl, ?_⟩))));rcases hk with rfl | rfl
   ·exact ⟨hc1, l4⟩
   ·exact ⟨hc2, l5⟩
  | 5, hk => exact .inr (.inr (.inr (.inr (.inr ⟨rfl, hk⟩))))
  | s + 6, hk => obtain ⟨r, hr, _⟩:=hk;rw [show (st0 NS).sl = List.replicate (NS + 1) slt0 from rfl, res0] at hr;cases hr
 have fin : ∃ p : LmP, Ending.returned (.tuple #[.pointer (some ⟨w4.heap.size + 1, 0, none⟩), .int .i64 0]) = .returned (.tuple #[.pointer (some ⟨p.m, 0, none⟩), .int .i64 0]) /\ LmMem W p N NW NS (st0 NS) /\ (∀ k, p.set (st0 NS).sl k -> w.heap.size <= k) /\ Below w.heap.size w W:=by
  refine ⟨⟨w4.heap.size + 1, Q, H, T, c, lb, w4.heap.size⟩, rfl, ⟨s3, hQ.below b2, hH.below b3, ⟨_, hT.only (only_of b4 (fun _ => False)) (fun _ _ h => h), NmInv.new NS⟩, clk_only hC (only_of b5 (fun _ => False)) (fun h => h) (fun h => h), by rw [hzs] at s2; exact s2, ?_, by simp [st0], by simp [st0, Ck.fresh], hS, ?_⟩, ?_, b1⟩
  ·intro s r hr;rw [show (st0 NS).sl = List.replicate (NS + 1) slt0 from rfl, res0] at hr;cases hr
  ·intro i j k h1 h2;have q1:=band i k h1;have q2:=band j k h2;omega
  ·rintro k ⟨i, hi⟩;have q1:=band i k hi;omega
 have FIN:=hid fin;clear fin band s1 s2 s3 b1 b2 b3 b4 b5 hQ hH hT hC hb1 hb2 hb3 hb4 hQs hHs hTs hc1 hc2 l1 l2 l3 l4 l5 HC1 HC2 HC3 HC4 hzs;rw [hW] at FIN;go_wp2_with fail;go_ret2;exact FIN.out
def atHand (sl : List Slt) (s : Nat) : Bool:=(resOf sl s).isSome
def handTo (sl : List Slt) (n : Nat) : List Nat:=(List.range n).filter (atHand sl)
theorem handTo_succ (sl : List Slt) (n : Nat) : handTo sl (n + 1) = handTo sl n ++ (if atHand sl n then [n] else []):=by
 unfold handTo;rw [List.range_succ, List.filter_append];by_cases h : atHand sl n = true
 ·simp [h]
 ·simp [h]
theorem handTo_length (sl : List Slt) (n : Nat) : (handTo sl n).length <= n:=by
 have:=List.length_filter_le (atHand sl) (List.range n)
 simpa [handTo] using this
theorem handTo_mem (sl : List Slt) (n k : Nat) : k ∈ handTo sl n ↔ k < n /\ ∃ r, resOf sl k = some r:=by
 unfold handTo atHand;rw [List.mem_filter, List.mem_range];cases resOf sl k with
 | none => simp
 | some r => simp
theorem hands_any (p : LmP) (N NW NS : Nat) (S : St) (w : World) (h : LmMem w p N NW NS S) :
  Calls Tryz.prog 26 #[.pointer (some ⟨p.m, 0, none⟩)] w fun e w' => ∃ v, e = .returned v /\ OwnsI w' w.heap.size v (zI (handTo S.sl (NS + 1))) /\ Below w.heap.size w w':=by
 have NSs:=h.small;obtain ⟨-, -, -, -, m4, -⟩:=h.look2;have hml:=h.head.lt;have HM:=hid h;clear h;go_enter Tryz.func26, Tryz.ntmps26;go_wp2_with fail;go_loopg [3, 10] (NS + 1) (fun gk s3 s10 wr => ∃ (j : Nat), j + gk = NS + 1 /\ s10 = .int .i64 j /\ OwnsI wr w.heap.size s3 (zI (handTo S.sl j)) /\ Below w.heap.size w wr)
 case atStart => exact ⟨0, by omega, rfl, World.ownsRow_nil _ _ _ _, Below.refl _ _⟩
 case round =>
  obtain ⟨j, hj, rfl, ho, hb⟩:=hrel;have M:=HM.out.below hb;obtain ⟨-, -, -, -, k4, -⟩:=M.look2;cases gk with
  | zero =>
   have hjn : ¬ ((j : Int) < (NS : Int) + 1):=by omega
   have e : j = NS + 1:=by omega
   rw [e] at ho;have HO:=hid ho;have HB:=hid hb;clear ho hb M e m4;go_wp2_with fail;go_ret;exact ⟨_, rfl, HO.out, HB.out⟩
  | succ g =>
   have hjn : (j : Int) < (NS : Int) + 1:=by omega
   have hjN : j < NS + 1:=by omega
   obtain ⟨x, hx⟩ : ∃ x, S.sl[j]? = some x:=⟨_, getElem?_eq_getElem (by rw [M.lenS]; omega)⟩;obtain ⟨d0, -, -⟩:=M.look hx;have hu : atHand S.sl j = x.res.isSome:=by unfold atHand; rw [resOf_of hx]
   have hs:=handTo_succ S.sl j;have hlen:=handTo_length S.sl j;rw [hu] at hs;have HS:=hid hs;have HLN:=hid hlen;have HB:=hid hb;have HO:=hid ho;have hz:=hb.size;obtain ⟨xr, hxr⟩ : ∃ xr, xr = x.res:=⟨_, rfl⟩;rw [<- hxr] at d0 HS;clear hs hu ho hb hlen M hx hxr m4;cases xr with
   | none =>
    rw [Option.map_none] at d0;go_wp2_with fail;go_roundg g
    case measure => omega
    case rel => refine ⟨j + 1, by omega, by go_num, ?_, HB.out⟩;have:=HS.out;simp only [Option.isSome_none, Bool.false_eq_true, if_false, List.append_nil] at this;rw [this]; exact HO.out
   | some r =>
    rw [Option.map_some] at d0;have hown2 : OwnsI (wr.alloc (.cells #[.int .i64 (j : Int)] 3)) w.heap.size _ _:=World.ownsRow.alloc HO.out (.cells #[.int .i64 (j : Int)] 3);have hI2:=Ints.of_blk (blk_ints wr (j : Int)) (by intro v hv; simp at hv; omega);have HI2:=hid hI2;have hbr2:=HB.out.alloc hz (.cells #[.int .i64 (j : Int)] 3);have hl : (zI (handTo S.sl j)).length <= 1000:=by have:=HLN.out; simp [zI]; omega
    clear hI2;go_wp2_with (at_builtin; refine append_ints rfl _ _ rfl w.heap.size _ (zI (handTo S.sl j)) rfl hown2 _ [(j : Int)] _ _ rfl rfl HI2.out (fun h => by cases h) ?c1 (by simp; omega) ?_)
    case c1 => exact Nat.le_trans (Nat.add_le_add_right hl _) (by simp)
    intro v5 w5 hown5 hg5;have hb5:=hbr2.grown hg5 (by simp; omega) (fun k hk => (hown2.lt k hk).1);have hown6 : OwnsI w5 w.heap.size v5 (zI (handTo S.sl (j + 1))):=by
     have:=HS.out;simp only [Option.isSome_some, if_true] at this;rw [this]
     simpa [zI] using hown5
    clear hown5 hg5 hown2 hbr2 HI2 d0 k4;go_wp2;go_roundg g
    case measure => omega
    case rel => exact ⟨j + 1, by omega, by go_num, hown6, hb5⟩
end Go.Proofs.YtgaemfghpibeeaaGreatDoor
namespace Go.Proofs.YtgaemfghpibeeaaGreatDoor
open Go.RowKit
def cntAt (S : St) (k s : Nat) : Nat:=match S.sl[k]? with
 | some x => cntS S.V x (2 * (s : Int))
 | none => 0
def rcTo (S : St) (l : List Nat) (s : Nat) : Nat:=(l.map fun k => cntAt S k s).sum
theorem rcTo_take (S : St) (l : List Nat) (q k s : Nat) (h : l[q]? = some k) : rcTo S (l.take (q + 1)) s = rcTo S (l.take q) s + cntAt S k s:=by unfold rcTo;rw [List.take_add_one, h];simp
theorem rcTo_hand (S : St) (s n : Nat) : rcTo S (handTo S.sl n) s = ((List.range n).map fun k => cntAt S k s).sum:=by
 induction n with
 | zero => rfl
 | succ n ih =>
  rw [handTo_succ, List.range_succ, List.map_append, List.sum_append, <- ih];unfold rcTo;rw [List.map_append, List.sum_append]
  congr 1;by_cases h : atHand S.sl n = true
  ·rw [if_pos h]
  ·rw [if_neg h];have e : cntAt S n s = 0:=by
    unfold cntAt atHand resOf at *;cases hx : S.sl[n]? with
    | none => rfl
    | some x =>
     rw [hx] at h;simp only at h ⊢;unfold cntS;cases hr : x.res with
     | none => rfl
     | some r => rw [hr] at h; exact absurd rfl h
   simp [e]
theorem map_range (V : Nat -> Option (List Int)) (sl : List Slt) (y : Int) : ((List.range sl.length).map fun k => match sl[k]? with
  | some x => cntS V x y
  | none => 0) = sl.map fun x => cntS V x y:=by
 apply List.ext_getElem?
 intro i;rw [List.getElem?_map, List.getElem?_map];by_cases h : i < sl.length
 ·rw [List.getElem?_range h, getElem?_eq_getElem h];simp [getElem?_eq_getElem h]
 ·rw [List.getElem?_eq_none (by simp; omega), List.getElem?_eq_none (by omega)];rfl
theorem rcTo_all (S : St) (s : Nat) : rcTo S (handTo S.sl S.sl.length) s = cnt S.V S.sl (2 * (s : Int)):=by rw [rcTo_hand];unfold cnt;rw [<- map_range];rfl
def refRow (S : St) (NS : Nat) (l : List Nat) (ws : List Int) : List Int:=(List.range (NS + 1)).map fun s => ((rcTo S l s + ws.count (2 * (s : Int)) : Nat) : Int)
theorem refRow_length (S : St) (NS : Nat) (l : List Nat) (ws : List Int) : (refRow S NS l ws).length = NS + 1:=by simp [refRow]
theorem refRow_get (S : St) (NS : Nat) (l : List Nat) (ws : List Int) (s : Nat) (h : s < NS + 1) : (refRow S NS l ws).getD s 0 = ((rcTo S l s + ws.count (2 * (s : Int)) : Nat) : Int):=by rw [refRow, getD_range_map _ _ _ h]
theorem refRow_zero (S : St) (NS : Nat) : List.replicate (NS + 1) 0 = refRow S NS [] []:=by refine ext_getD (by simp [refRow]) (fun s hs => ?_);simp at hs;rw [refRow_get _ _ _ _ _ hs, getD_rep0];simp [rcTo]
theorem count_take (ws : List Int) (j : Nat) (y z : Int) (h : ws[j]? = some y) : (ws.take (j + 1)).count z = (ws.take j).count z + if y = z then 1 else 0:=by rw [List.take_add_one, h];simp only [Option.toList_some, List.count_append, List.count_singleton, beq_iff_eq]
theorem refRow_skip (S : St) (NS : Nat) (l : List Nat) (ws : List Int) (j : Nat) (y : Int) (h : ws[j]? = some y) (hy : y % 2 = 1 \/ y = 65534) (hN : NS <= 255) : refRow S NS l (ws.take j) = refRow S NS l (ws.take (j + 1)):=by refine ext_getD (by rw [refRow_length, refRow_length]) (fun s hs => ?_);rw [refRow_length] at hs;rw [refRow_get _ _ _ _ _ hs, refRow_get _ _ _ _ _ hs, count_take _ _ _ _ h, if_neg (by omega)];rfl
theorem refRow_put (S : St) (NS : Nat) (l : List Nat) (ws : List Int) (j t : Nat) (h : ws[j]? = some (2 * (t : Int))) : (refRow S NS l (ws.take j)).set t ((refRow S NS l (ws.take j)).getD t 0 + 1) = refRow S NS l (ws.take (j + 1)):=by
 refine ext_getD (by rw [length_set, refRow_length, refRow_length]) (fun s hs => ?_);rw [length_set, refRow_length] at hs;rw [getD_set, refRow_length, refRow_get _ _ _ (ws.take (j + 1)) _ hs, count_take _ _ _ _ h];by_cases e : t = s
 ·subst e;rw [if_pos ⟨rfl, hs⟩, refRow_get _ _ _ _ _ hs, if_pos rfl];omega
 ·rw [if_neg (fun x => e x.1), refRow_get _ _ _ _ _ hs, if_neg (by omega)];rfl
theorem refRow_next (S : St) (NS : Nat) (l : List Nat) (q k : Nat) (x : Slt) (r : Res) (ws : List Int) (h : l[q]? = some k) (hx : S.sl[k]? = some x) (hr : x.res = some r) (hV : S.V r.b = some ws) : refRow S NS (l.take q) (if r.kind = 1 then ws else []) = refRow S NS (l.take (q + 1)) []:=by
 refine ext_getD (by rw [refRow_length, refRow_length]) (fun s hs => ?_);rw [refRow_length] at hs;rw [refRow_get _ _ _ _ _ hs, refRow_get _ _ _ _ _ hs, rcTo_take _ _ _ _ _ h];have e : cntAt S k s = (if r.kind = 1 then ws else []).count (2 * (s : Int)):=by
  unfold cntAt;rw [hx];simp only;unfold cntS;rw [hr];simp only;split
  ·rw [hV]; rfl
  ·rfl
 rw [e];simp
theorem refRow_all (S : St) (NS : Nat) (h : S.sl.length = NS + 1) (s : Nat) (hs : s < NS + 1) : (refRow S NS (handTo S.sl (NS + 1)) []).getD s 0 = ((cnt S.V S.sl (2 * (s : Int)) : Nat) : Int):=by rw [refRow_get _ _ _ _ _ hs, <- h, rcTo_all];simp
theorem length_le_of_nodup {l m : List Nat} (hn : l.Nodup) (hs : ∀ x ∈ l, x ∈ m) : l.length <= m.length:=by
 induction l generalizing m with
 | nil => simp
 | cons a l ih => obtain ⟨h1, h2⟩:=List.nodup_cons.1 hn;have ha:=hs a (List.mem_cons_self);have h3:=ih (m:=m.erase a) h2 (fun x hx => (List.mem_erase_of_ne (by intro e; subst e; exact h1 hx)).2 (hs x (List.mem_cons_of_mem _ hx)));have h4:=List.length_erase_of_mem ha;have h5:=List.length_pos_of_mem ha;rw [List.length_cons];omega
section
variable {NS : Nat} {S : St} {Vt : List Ob} {ext : List Int} {ex : Nat -> Prop}
def blockOf (sl : List Slt) (k : Nat) : Nat:=match resOf sl k with
 | some r => r.b
 | none => 0
theorem handTo_nodup (sl : List Slt) (n : Nat) : (handTo sl n).Nodup:=List.Nodup.sublist (List.filter_sublist) List.nodup_range
theorem Inv.blocksN (h : Inv NS S Vt ext ex (fun _ => False)) (hv : ∀ k ws, S.V k = some ws -> k < S.hc) : (handTo S.sl (NS + 1)).length = (heldV S.V S.hc).length:=by
 have hn : (heldV S.V S.hc).Nodup:=List.Nodup.sublist (List.filter_sublist) List.nodup_range;apply Nat.le_antisymm
 ·have h1 : ((handTo S.sl (NS + 1)).map (blockOf S.sl)).Nodup:=by rw [List.Nodup, List.pairwise_map];refine List.Pairwise.imp_of_mem ?_ (handTo_nodup S.sl (NS + 1));intro a b ha hb hne e;obtain ⟨_, ra, hra⟩:=(handTo_mem _ _ _).1 ha;obtain ⟨_, rb, hrb⟩:=(handTo_mem _ _ _).1 hb;unfold blockOf at e;rw [hra, hrb] at e;exact hne (h.blocks a b ra rb hra hrb e)
  have h2:=length_le_of_nodup (m:=heldV S.V S.hc) h1 (fun k hk => by
   obtain ⟨a, ha, rfl⟩:=List.mem_map.1 hk;obtain ⟨_, r, hr⟩:=(handTo_mem _ _ _).1 ha;obtain ⟨ws, hw⟩:=h.resV hr;have e : blockOf S.sl a = r.b:=by unfold blockOf; rw [hr]
   rw [e];unfold heldV;rw [List.mem_filter, List.mem_range];exact ⟨hv _ _ hw, by rw [hw]; rfl⟩)
  rwa [List.length_map] at h2
 ·have key : ∀ l : List Nat, l.Nodup -> (∀ k ∈ l, ∃ ws, S.V k = some ws) -> ∃ m : List Nat, m.length = l.length /\ m.Nodup /\ (∀ s ∈ m, ∃ r, resOf S.sl s = some r /\ r.b ∈ l):=by
   intro l
   induction l with
   | nil => exact fun _ _ => ⟨[], rfl, List.nodup_nil, fun s hs => by cases hs⟩
   | cons a l ih =>
    intro hn hl;obtain ⟨h1, h2⟩:=List.nodup_cons.1 hn;obtain ⟨m, m1, m2, m3⟩:=ih h2 (fun k hk => hl k (List.mem_cons_of_mem _ hk));obtain ⟨ws, hw⟩:=hl a List.mem_cons_self;rcases h.held a ws hw with hf | ⟨s, r, hr, hb⟩
    ·exact hf.elim
    ·refine ⟨s :: m, by simp [m1], List.nodup_cons.2 ⟨fun hs => ?_, m2⟩, fun x hx => ?_⟩
     ·obtain ⟨r2, hr2, hm⟩:=m3 s hs;rw [hr] at hr2;cases hr2
      rw [hb] at hm;exact h1 hm
     ·rcases List.mem_cons.1 hx with rfl | hx
      ·exact ⟨r, hr, by rw [hb]; exact List.mem_cons_self⟩
      ·obtain ⟨r2, a1, a2⟩:=m3 x hx;exact ⟨r2, a1, List.mem_cons_of_mem _ a2⟩
  obtain ⟨m, m1, m2, m3⟩:=key _ hn (fun k hk => by
   unfold heldV at hk;have:=(List.mem_filter.1 hk).2;cases hw : S.V k with
   | none => rw [hw] at this; cases this
   | some ws => exact ⟨ws, rfl⟩)
  rw [<- m1];exact length_le_of_nodup m2 (fun s hs => by obtain ⟨r, hr, _⟩:=m3 s hs;obtain ⟨x, hx, _⟩:=resOf_some hr;exact (handTo_mem _ _ _).2 ⟨by have:=(List.getElem?_eq_some_iff.1 hx).1; rw [h.lenS] at this; exact this, r, hr⟩)
end
end Go.Proofs.YtgaemfghpibeeaaGreatDoor
namespace Go.Proofs.YtgaemfghpibeeaaGreatDoor
open Go.RowKit
theorem cntAt_le {S : St} {B : Nat} (h : ∀ k ws, S.V k = some ws -> ws.length <= B) (k s : Nat) : cntAt S k s <= B:=by
 unfold cntAt;split
 ·unfold cntS;split
  ·next r _ =>
   split
   ·cases hv : S.V r.b with
    | none => simp
    | some ws => exact Nat.le_trans (List.count_le_length) (h _ _ hv)
   ·exact Nat.zero_le _
  ·exact Nat.zero_le _
 ·exact Nat.zero_le _
theorem rcTo_le {S : St} {B : Nat} (h : ∀ k ws, S.V k = some ws -> ws.length <= B) (l : List Nat) (s : Nat) : rcTo S l s <= l.length * B:=by
 induction l with
 | nil => simp [rcTo]
 | cons a l ih => have:=cntAt_le h a s;unfold rcTo at ih ⊢;rw [List.map_cons, List.sum_cons, List.length_cons, Nat.succ_mul];omega
theorem rows_bound (l : List Ob) (h : ∀ o ∈ l, checkM o = true) : rowsLen (rowsV l) <= 100 * l.length:=by
 induction l with
 | nil => simp [rowsLen, rowsV]
 | cons o l ih =>
  have h1:=ih (fun x hx => h x (List.mem_cons_of_mem _ hx));have h2:=encM_small (h o List.mem_cons_self);have e : rowsLen (rowsV (o :: l)) = secs (encM o).length + rowsLen (rowsV l):=by simp [rowsLen, rowsV]
  rw [e, List.length_cons];unfold secs;omega
theorem rows_take (l : List Ob) (j : Nat) (o : Ob) (h : l[j]? = some o) : rowsLen (rowsV (l.take (j + 1))) = rowsLen (rowsV (l.take j)) + secs (encM o).length:=by rw [List.take_add_one, h];simp [rowsLen, rowsV]
def SoundPost (p : LmP) (N NW NS : Nat) (S : St) (w : World) (e : Ending) (w' : World) : Prop:=e = .returned (.bool true) /\ LmMem w' p N NW NS S /\ Step p S w p S w'
theorem sound_any (p : LmP) (N NW NS : Nat) (S : St) (Vt : List Ob) (w : World) (h : LmMem w p N NW NS S) (hI : Inv NS S Vt [] (fun _ => False) (fun _ => False)) (hbusy : S.busy = 0) :
  Calls Tryz.prog 8 #[.pointer (some ⟨p.m, 0, none⟩)] w (SoundPost p N NW NS S w):=by
 have NSs:=h.small;obtain ⟨-, -, -, -, m4, -⟩:=h.look2;have hmk : ∀ W : World, (Instr.makeSlice 26 (.int .i64 ((NS : Int) + 1)) (.int .i64 ((NS : Int) + 1))).run Tryz.prog W = .ok (.slice (some ⟨W.heap.size, 0, none⟩) (NS + 1) (NS + 1)) (W.alloc (.cells (intCells (refRow S NS [] [])) 3)):=fun W => by have h1:=make_ints (NS + 1) (by omega) W;rw [refRow_zero S NS] at h1;exact h1
 have hal:=(Below.refl w.heap.size w).alloc (Nat.le_refl _) (.cells (intCells (refRow S NS [] [])) 3);have M1:=h.below hal;have hnd:=hands_any p N NW NS S _ M1;obtain ⟨hd, hhd⟩ : ∃ hd, hd = handTo S.sl (NS + 1):=⟨_, rfl⟩;rw [<- hhd] at hnd;have hdl : hd.length <= NS + 1:=by rw [hhd]; exact handTo_length _ _
 have b1:=Blk.new w 3 (intCells (refRow S NS [] []));obtain ⟨z0, hz0⟩ : ∃ z, z = intCells (refRow S NS [] []):=⟨_, rfl⟩;rw [<- hz0] at hmk hal M1 hnd b1;have HND:=Lib.hid hnd;have HM:=Lib.hid h;have HI:=Lib.hid hI;have HBU:=Lib.hid hbusy;have HHD:=Lib.hid hhd;have B1:=Lib.hid b1;have HZ0:=Lib.hid hz0;clear hnd h hI hbusy hhd b1 M1 hz0 hal;go_enter Tryz.func8, Tryz.ntmps8;go_wp2_with fail;refine HND.out.mono ?_;rintro e w2 ⟨v, rfl, hv, hb2⟩;have hdm : ∀ x ∈ zI hd, 0 <= x /\ x <= 255:=fun x hx => by obtain ⟨k, hk, rfl⟩:=List.mem_map.1 hx;rw [HHD.out] at hk;have:=((handTo_mem _ _ _).1 hk).1;omega
 obtain ⟨A, cap, rfl, hlc, hc63, -, -⟩:=hv.reads (fun x hx => by have:=hdm x hx; omega);have hzl : (zI hd).length = hd.length:=by simp [zI]
 rw [World.size_alloc] at hv;rw [hzl] at hlc hv ⊢;obtain ⟨n, hn⟩ : ∃ n, n = hd.length:=⟨_, rfl⟩;rw [<- hn] at hlc hdl hv ⊢;have b2:=B1.out.keep hb2;have o2 : Only (fun _ => False) w w2:=((Only.refl _ w).alloc (.cells z0 3)).trans (only_of hb2 _);have HV:=Lib.hid hv;have HDM:=Lib.hid hdm;have HN:=Lib.hid hn;have O2:=Lib.hid o2;have b2' : Blk w2 w.heap.size 3 (intCells (refRow S NS (hd.take 0) [])):=by have h1:=b2;rw [HZ0.out] at h1;exact h1
 have m2 : LmMem w2 p N NW NS S:=HM.out.only o2 (fun _ _ h => h);have hwl:=b2.lt;have VL : Hid (∀ k ws, S.V k = some ws -> ws.length <= 32768):=Lib.hid (fun k ws hk => by have:=(m2.heap.vals hk).2.1; have:=m2.heap.size.1; omega);clear hv hdm hzl hn b2 hb2 HND B1 HZ0 hmk o2;go_wp2_with fail;go_loopg [4, 36] n (fun gk s4 s36 wr => ∃ q : Nat, q + gk = n /\ s4 = .int .i64 q /\ s36 = .int .i64 q /\ Aside (LmMem wr p N NW NS S) /\ Aside (Blk wr w.heap.size 3 (intCells (refRow S NS (hd.take q) []))) /\ Aside (Only (fun k => k = w.heap.size) w2 wr))
 case atStart => exact ⟨0, by omega, rfl, rfl, m2, b2', Only.refl _ _⟩
 case round =>
  clear m2 b2' m4;obtain ⟨q, hq, rfl, rfl, hM, hB, hO⟩:=hrel;have MR:=hM.out;have BR:=hB.out;have OR:=hO.out;clear hM hB hO;cases gk with
  | succ g =>
   have hqn : (q : Int) < n:=by omega
   have hv:=HV.out.only OR (fun g e => by omega);obtain ⟨A1, cap1, e1, -, -, hA, -⟩:=hv.reads (fun x hx => by have:=HDM.out x hx; omega);injection e1 with e1 e2 e3;subst e1;clear e2 e3;obtain ⟨k, hk⟩ : ∃ k, hd[q]? = some k:=⟨_, getElem?_eq_getElem (by have:=HN.out; omega)⟩;have hmem:=mem_of_getElem? hk;rw [HHD.out] at hmem;obtain ⟨hkN, r, hres⟩:=(handTo_mem _ _ _).1 hmem;obtain ⟨_, bb, off, rfl, _, a0⟩:=hA q (k : Int) (by simp [zI, hk]);obtain ⟨x, hx, hr⟩:=resOf_some hres;obtain ⟨i, o, v, ws, k1, k2, k3, k4, k5, k6, k7, k8, k9, k10⟩:=HI.out.here k x r hx hr;obtain ⟨m0, m1, -, -, m4, -⟩:=MR.look2;obtain ⟨d0, d1, -⟩:=MR.look hx;rw [hr, Option.map_some] at d0;rw [k1] at d1;obtain ⟨r0, r1, r2, -, -⟩:=MR.res hx hr;obtain ⟨L, hL⟩ : ∃ L, L = ws.length:=⟨_, rfl⟩;have hsz:=heapSize_any p.H NW S.hc S.V S.t r.b ws wr.drew MR.drew.heap k6;have hwl2:=HI.out.lenS;have hLL : L = lenW r.kind r.size:=by rw [hL, k7, k4, k5]
   have hws:=fun W => words_any r.kind r.size (by
    have:=VL.out _ _ k6;have hok:=MR.disk.ok o (mem_of_getElem? k2);obtain ⟨_, h2⟩:=checkM_parts hok;rw [k5, sizeM];rcases h2 with ⟨b1, _, b3, _⟩ | ⟨b1, _, b3⟩
    ·rw [if_pos b1]; omega
    ·rw [if_neg (by omega), if_pos b1]; omega) W
   have hhas:=secHas_any p.Q N S.D ((i : Int) + 1) wr.drew MR.drew.disk (by have:=(List.getElem?_eq_some_iff.1 k2).1; have:=HI.out.lenV; have:=MR.disk.small; omega);have e5 : hasM S.D ((i : Int) + 1) = true:=by have:=(List.getElem?_eq_some_iff.1 k2).1;simp [hasM]; omega
   rw [e5] at hhas;rw [<- hL] at hsz;simp only [<- hLL] at hws;have hbne : ((L : Int) != (L : Int)) = false:=by simp
   have HSZ:=Lib.hid hsz;have HWS:=Lib.hid hws;have HHAS:=Lib.hid hhas;have HMR:=Lib.hid MR;have HBR:=Lib.hid BR;have HOR:=Lib.hid OR;have HK:=Lib.hid hk;have HX:=Lib.hid hx;have HR:=Lib.hid hr;have K1:=Lib.hid k1;have K6:=Lib.hid k6;have K4:=Lib.hid k4;have K5:=Lib.hid k5;have K7:=Lib.hid k7;have K10:=Lib.hid k10;have HL:=Lib.hid hL;have hkI : (k : Int) < (NS : Int) + 1:=by omega
   clear hsz hws hhas MR BR OR hk hx hr k1 k2 k3 k4 k5 k6 k7 k8 k9 k10 hv hA hmem hres e5 hLL hL hwl2;go_upto_region 10 with (fail);go_region_held3 (fun w' => w'.cell? ⟨p.m, 0, none⟩ = some (.pointer (some ⟨p.Q.q, 0, none⟩)) /\ w'.cell? ⟨p.m, 1, none⟩ = some (.pointer (some ⟨p.H.h, 0, none⟩)) /\ w'.cell? ⟨p.sb, k * 3, none⟩ = some (.pointer (some ⟨r.a, 0, none⟩)) /\ w'.cell? ⟨p.sb, k * 3 + 1, none⟩ = some (.int .i64 ((i : Int) + 1)) /\ w'.cell? ⟨r.a, 0, none⟩ = some (.int .i64 (r.b : Int)) /\ w'.cell? ⟨r.a, 1, none⟩ = some (.int .i64 r.kind) /\ w'.cell? ⟨r.a, 2, none⟩ = some (.int .i64 (r.size : Int)))
    (first | exact ⟨z0, z1, z2, z3, z4, z5, z6⟩ | go_keep)
    (first | (go_at_call 27; refine HSZ.out.mono ?_; rintro e w5 ⟨rfl, rfl⟩) | (go_at_call 28; refine (HWS.out _).mono ?_; rintro e w5 ⟨rfl, rfl⟩) | (go_at_call 29; refine HHAS.out.mono ?_; rintro e w5 ⟨rfl, hb5⟩; have M5:=HMR.out.drew.below hb5; obtain ⟨z0, z1, -, -, -, -⟩:=M5.look2; obtain ⟨z2, z3, -⟩:=M5.look HX.out; rw [HR.out, Option.map_some] at z2; rw [K1.out] at z3; obtain ⟨z4, z5, z6, -, -⟩:=M5.res HX.out HR.out))
   have B5:=HBR.out.drew.keep hb5;have O5:=(HOR.out.trans (only_drew _ _)).trans (only_of hb5 _);have NX:=Lib.hid (refRow_next S NS hd q k x r ws HK.out HX.out HR.out K6.out);have HM5:=Lib.hid M5;have HB5:=Lib.hid B5;have HO5:=Lib.hid O5;clear M5 B5 O5 hb5 HSZ HWS HHAS HMR HBR HOR z0 z1 z2 z3 z4 z5 z6 m0 m1 m4 d0 d1 r0 r1 r2 hbne a0;have hbl : ∀ W, LmMem W p N NW NS S -> W.cell? ⟨p.m, 1, none⟩ = some (.pointer (some ⟨p.H.h, 0, none⟩)) /\ W.cell? ⟨p.sb, k * 3, none⟩ = some (.pointer (some ⟨r.a, 0, none⟩)) /\ W.cell? ⟨r.a, 0, none⟩ = some (.int .i64 (r.b : Int)) /\ W.cell? ⟨r.a, 1, none⟩ = some (.int .i64 r.kind) /\ W.cell? ⟨r.a, 2, none⟩ = some (.int .i64 (r.size : Int)):=fun W hW => by obtain ⟨-, a1, -, -, -, -⟩:=hW.look2;obtain ⟨a2, -, -⟩:=hW.look HX.out;rw [HR.out, Option.map_some] at a2;obtain ⟨a3, a4, a5, -, -⟩:=hW.res HX.out HR.out;exact ⟨a1, a2, a3, a4, a5⟩
   have HBL:=Lib.hid hbl;clear hbl;by_cases hk1 : r.kind = 1
   ·have hLs : L = r.size:=by rw [HL.out, K7.out, K5.out, lenW, if_neg (by rw [<- K4.out]; omega)]
    have hbk : (r.kind == 1) = true:=by simp [hk1]
    have hLb : L <= 32768:=by have:=VL.out _ _ K6.out; have:=HL.out; omega
    have nx:=NX.out;rw [if_pos hk1] at nx;have HNX:=Lib.hid nx;have HLS:=Lib.hid hLs;have HK1:=Lib.hid hk1;have st0 : Aside (Blk w5 w.heap.size 3 (intCells (refRow S NS (hd.take q) (ws.take 0)))):=HB5.out;clear nx hLs hk1 NX;go_wp2_with fail;go_loopg [8] L (fun gk s8 wz => ∃ j : Nat, j + gk = L /\ s8 = .int .i64 j /\ Aside (LmMem wz p N NW NS S) /\ Aside (Blk wz w.heap.size 3 (intCells (refRow S NS (hd.take q) (ws.take j)))) /\ Aside (Only (fun k => k = w.heap.size) w2 wz))
    case atStart => exact ⟨0, by omega, rfl, HM5.out, st0, HO5.out⟩
    case round =>
     clear st0 HM5 HB5 HO5;obtain ⟨j, hj, rfl, hM, hB, hO⟩:=hrel;obtain ⟨m1, d0, r0, r1, r2⟩:=HBL.out _ hM.out;cases gk with
     | succ g2 =>
      have hjs : (j : Int) < (r.size : Int):=by have:=HLS.out; omega
      obtain ⟨y, hy⟩ : ∃ y, ws[j]? = some y:=⟨_, getElem?_eq_getElem (by have:=HL.out; omega)⟩;have hyok:=K10.out (K4.out.symm.trans HK1.out) y (mem_of_getElem? hy);have hyd : ws.getD j 0 = y:=by rw [getD_eq_getElem?_getD, hy]; rfl
      have hrd:=fun (k : Nat) => Lib.hid (heapRead_any p.H NW S.hc S.V S.t r.b j ws (wr.drewN k) (hM.out.drewN k).heap K6.out (by have:=HL.out; omega));rw [hyd] at hrd;have HRD:=Lib.hid hrd;have HY:=Lib.hid hy;have HYOK:=Lib.hid hyok;have hMo:=Lib.hid hM.out;have hBo:=Lib.hid hB.out;have hOo:=Lib.hid hO.out;clear hrd hy hyok hyd hM hB hO;go_upto_region 15 with (fail);go_quiet ((go_at_call 30; exact Calls.quiet_of (HRD.out _).out))
      have M6 : Aside (LmMem (wr.drewN nq) p N NW NS S):=hMo.out.drewN nq;have B6:=Lib.hid (hBo.out.drewN nq);have O6:=Lib.hid (hOo.out.drewN nq);clear hMo hBo hOo HRD m1 d0 r0 r1 r2;generalize wr.drewN nq = W at M6 B6 O6 ⊢;rcases HYOK.out with ⟨y0, y1, y2⟩ | rfl | ⟨t, rfl, t1, t2⟩
      ·have hne : (y != 65534) = true:=by simp; omega
       have hmd : y.tmod 2 = 1:=by rw [Int.tmod_eq_emod_of_nonneg y0]; exact y2
       have nb : Aside (Blk W w.heap.size 3 (intCells (refRow S NS (hd.take q) (ws.take (j + 1))))):=by rw [<- refRow_skip S NS (hd.take q) ws j y HY.out (.inl y2) NSs]; exact B6.out
       have no : Aside (Only (fun k => k = w.heap.size) w2 W):=O6.out;clear B6 O6 HYOK HY;go_wp2_with fail;go_roundg g2
       case measure => omega
       case rel => exact ⟨j + 1, by omega, by go_num, M6, nb, no⟩
      ·have nb : Aside (Blk W w.heap.size 3 (intCells (refRow S NS (hd.take q) (ws.take (j + 1))))):=by rw [<- refRow_skip S NS (hd.take q) ws j 65534 HY.out (.inr rfl) NSs]; exact B6.out
       have no : Aside (Only (fun k => k = w.heap.size) w2 W):=O6.out;clear B6 O6 HYOK HY;go_wp2_with fail;go_roundg g2
       case measure => omega
       case rel => exact ⟨j + 1, by omega, by go_num, M6, nb, no⟩
      ·have hne : ((2 * (t : Int)) != 65534) = true:=by simp; omega
       have hmd : (2 * (t : Int)).tmod 2 = 0:=by rw [Int.tmod_eq_emod_of_nonneg (by omega)]; omega
       have hdv : (2 * (t : Int)).tdiv 2 = (t : Int):=by rw [Int.tdiv_eq_ediv_of_nonneg (by omega)]; omega
       have hdw : IntKind.i64.wrap (t : Int) = (t : Int):=by rw [IntKind.wrap_i64]; omega
       have htI : (t : Int) < (NS : Int) + 1:=by omega
       obtain ⟨rv, hrv⟩ : ∃ rv, rv = (refRow S NS (hd.take q) (ws.take j)).getD t 0:=⟨_, rfl⟩;have hput:=refRow_put S NS (hd.take q) ws j t HY.out;have g1:=B6.out.cell t;rw [intCells_get _ _ (by rw [refRow_length]; omega), <- hrv] at g1;have f1:=B6.out.frozen t;have hbd : 0 <= rv /\ rv <= 100000000:=by
        rw [hrv, refRow_get _ _ _ _ _ (by omega)];have a1:=rcTo_le VL.out (hd.take q) t;have a2 : (ws.take j).count (2 * (t : Int)) <= 32768:=Nat.le_trans List.count_le_length (Nat.le_trans (List.length_take_le _ _) (by have:=VL.out _ _ K6.out; have:=HL.out; omega));have a3 : (hd.take q).length <= 256:=by rw [List.length_take]; have:=HN.out; omega
        have a4:=Nat.mul_le_mul_right 32768 a3;omega
       rw [<- hrv] at hput;have hw1 : IntKind.i64.wrap (rv + 1) = rv + 1:=by rw [IntKind.wrap_i64]; omega
       have gl:=B6.out.lt;have n1 : Aside (LmMem (W.setCell ⟨w.heap.size, t, none⟩ (.int .i64 (rv + 1))) p N NW NS S):=M6.out.only ((Only.refl (fun k => k = w.heap.size) W).setCell (p:=⟨w.heap.size, t, none⟩) (.inl rfl) _) (fun k hk e => by have:=HM.out.lt k hk; omega);have n2 : Aside (Blk (W.setCell ⟨w.heap.size, t, none⟩ (.int .i64 (rv + 1))) w.heap.size 3 (intCells (refRow S NS (hd.take q) (ws.take (j + 1))))):=by have:=B6.out.set_ t (.int .i64 (rv + 1));rw [intCells_set, hput] at this;exact this
       have n3 : Aside (Only (fun k => k = w.heap.size) w2 (W.setCell ⟨w.heap.size, t, none⟩ (.int .i64 (rv + 1)))):=O6.out.setCell (p:=⟨w.heap.size, t, none⟩) (.inl rfl) _;obtain ⟨v0, v1⟩:=hbd;clear B6 O6 M6 HYOK HY hput hrv;go_wp2_with fail;go_roundg g2
       case measure => omega
       case rel => exact ⟨j + 1, by omega, by go_num, n1, n2, n3⟩
     | zero =>
      have hjs : ¬ ((j : Int) < (r.size : Int)):=by have:=HLS.out; omega
      have ej : ws.take j = ws:=take_of_length_le (by have:=HL.out; omega);have nb : Aside (Blk wr w.heap.size 3 (intCells (refRow S NS (hd.take (q + 1)) []))):=by rw [<- HNX.out, <- ej]; exact hB.out
      clear hB ej HNX;go_wp2_with fail;go_roundg g
      case measure => omega
      case rel => exact ⟨q + 1, by omega, by go_num, by go_num, hM, nb, hO⟩
   ·have hbk : (r.kind == 1) = false:=by simp [hk1]
    have nx:=NX.out;rw [if_neg hk1] at nx;have nb : Aside (Blk w5 w.heap.size 3 (intCells (refRow S NS (hd.take (q + 1)) []))):=by rw [<- nx]; exact HB5.out
    clear nx NX;go_wp2_with fail;go_loopg [8] 0 (fun gk s8 wz => gk = 0 /\ s8 = .int .i64 0 /\ w5 = wz)
    case atStart => exact ⟨rfl, rfl, rfl⟩
    case round =>
     obtain ⟨rfl, rfl, rfl⟩:=hrel;obtain ⟨m1, d0, r0, r1, r2⟩:=HBL.out _ HM5.out;have nm : Aside (LmMem w5 p N NW NS S):=HM5.out;have no : Aside (Only (fun k => k = w.heap.size) w2 w5):=HO5.out;clear HM5 HO5 HB5;go_wp2_with fail;go_roundg g
     case measure => omega
     case rel => exact ⟨q + 1, by omega, by go_num, by go_num, nm, nb, no⟩
  | zero =>
   have hqn : ¬ ((q : Int) < n):=by omega
   have eq : hd.take q = hd:=take_of_length_le (by have:=HN.out; omega);rw [eq] at BR;obtain ⟨-, -, -, -, m4, -⟩:=MR.look2;have o3 : Only (fun _ => False) w wr:=O2.out.then_ OR (fun g e => .inr (by omega));have HMR:=Lib.hid MR;have HBR:=Lib.hid BR;have HO3:=Lib.hid o3;have hset0 : ∀ k, False -> p.set S.sl k:=fun _ h => h.elim;have o4:=o3.mono hset0;clear MR BR OR eq o3 hset0;go_wp2_with fail;go_loopg [11] NS (fun gk s11 wr => ∃ s : Nat, s + gk = NS + 1 /\ 1 <= s /\ s11 = .int .i64 s /\ Aside (LmMem wr p N NW NS S) /\ Aside (Blk wr w.heap.size 3 (intCells (refRow S NS hd []))) /\ Aside (Only (p.set S.sl) w wr))
   case atStart => exact ⟨1, by omega, Nat.le_refl _, rfl, HMR.out, HBR.out, o4⟩
   case round =>
    clear HMR HBR o4 m4 HO3;obtain ⟨s, hs, hs1, rfl, hM, hB, hO⟩:=hrel;have MR:=hM.out;obtain ⟨-, -, m2, m3, m4, -⟩:=MR.look2;cases gk with
    | succ g3 =>
     have hsN : (s : Int) < (NS : Int) + 1:=by omega
     obtain ⟨hash, hn1, hn2⟩:=MR.names;have hlS:=MR.lenS;have hlL:=MR.lenL;obtain ⟨x, hx⟩ : ∃ x, S.sl[s]? = some x:=⟨_, getElem?_eq_getElem (by omega)⟩;obtain ⟨pl, hpl⟩ : ∃ pl, S.L[s]? = some pl:=⟨_, getElem?_eq_getElem (by omega)⟩;obtain ⟨hpi, hpp⟩:=HI.out.clock s x pl hx hpl;have hni:=id_any p.T NS S.ids hash s wr hn1 hn2 hs1 (by omega);rw [<- HI.out.ids s x hx] at hni;have his:=Ck.is_ok wr p.c p.lb S.hand S.L s pl MR.clk hpl;rw [hpi, hpp] at his;have href:=HI.out.refs s x hx hs1;have hrow:=refRow_all S NS hlS s (by omega);rw [<- HHD.out] at hrow;have hrr : (refRow S NS hd []).getD s 0 = x.refs:=by rw [hrow, href]; simp
     have hlk : ∀ W, LmMem W p N NW NS S -> W.cell? ⟨p.sb, s * 3, none⟩ = some (.pointer (x.res.map fun r => ⟨r.a, 0, none⟩)) /\ W.cell? ⟨p.sb, s * 3 + 1, none⟩ = some (.int .i64 x.id) /\ W.cell? ⟨p.sb, s * 3 + 2, none⟩ = some (.int .i64 x.refs):=fun W hW => hW.look hx;have hgk : ∀ W, Blk W w.heap.size 3 (intCells (refRow S NS hd [])) -> W.cell? ⟨w.heap.size, s, none⟩ = some (.int .i64 x.refs):=fun W hW => by have g1:=hW.cell s;rw [intCells_get _ _ (by rw [refRow_length]; omega), hrr] at g1;exact g1
     have hcase : (∃ r, x.res = some r /\ x.id ≠ 0) \/ (x.res = none /\ 0 < x.refs /\ x.id ≠ 0) \/ (x.res = none /\ x.refs = 0 /\ x.id = 0):=by
      cases hr : x.res with
      | some r => obtain ⟨i, _, _, _, k1, _⟩:=HI.out.here s x r hx hr;exact .inl ⟨r, rfl, by omega⟩
      | none =>
       by_cases h0 : x.id = 0
       ·exact .inr (.inr ⟨rfl, (HI.out.named s x hx hs1 h0).2, h0⟩)
       ·rcases HI.out.used s x hx hs1 h0 (fun h => h) with h1 | h1 | h1
        ·exact absurd hr h1
        ·exact .inr (.inl ⟨rfl, h1, h0⟩)
        ·have:=HBU.out;omega
     obtain ⟨rf, hrf⟩ : ∃ rf, rf = x.refs:=⟨_, rfl⟩;obtain ⟨id, hid⟩ : ∃ id, id = x.id:=⟨_, rfl⟩;obtain ⟨xr, hxr⟩ : ∃ xr, xr = x.res:=⟨_, rfl⟩;rw [<- hrf] at hlk hgk hcase;rw [<- hid] at hlk hni hcase;rw [<- hxr] at hlk his hcase;have HLK:=Lib.hid hlk;have HGK:=Lib.hid hgk;have HLL:=Lib.hid hlL;have HNI:=Lib.hid hni;have HIS:=Lib.hid his;have HMR:=Lib.hid MR;have HBR:=Lib.hid hB.out;have HOR:=Lib.hid hO.out;have hlow:=HM.out.lt;have HLOW:=Lib.hid hlow;have nx : Hid (∀ w5, LmMem w5 p N NW NS S -> Ck.Only p.c p.lb wr w5 -> Aside (LmMem w5 p N NW NS S) /\ Aside (Blk w5 w.heap.size 3 (intCells (refRow S NS hd []))) /\ Aside (Only (p.set S.sl) w w5)):=Lib.hid (fun w5 h5 o5 => by have hset : ∀ k, (k = p.c \/ k = p.lb) -> p.set S.sl k:=fun k hk => ⟨4, hk⟩;have o6:=(ck_only o5).mono hset;exact ⟨h5, HBR.out.only o6 (fun e => by have:=HLOW.out _ e; omega), HOR.out.trans o6⟩)
     have hsI : s < NS + 1:=by omega
     clear hni his MR hM hB hO hlow hn1 hn2 hx hpl hpi hpp href hrow hrr hrf hid hxr hlS hlL HBR HOR hlk hgk;rcases hcase with ⟨r, rfl, h0⟩ | ⟨rfl, h0, h1⟩ | ⟨rfl, rfl, rfl⟩
     ·have e1 : decide (id ≠ 0) = true:=by simp [h0]
      rw [e1] at HNI;simp only [Option.isSome_some] at HIS;clear e1 h0;go_wp2_with fail;refine HNI.out.mono ?_;rintro e w5 ⟨rfl, rfl⟩;go_wp2_with fail;refine HIS.out.mono ?_;rintro e w5 ⟨rfl, hC, hO⟩;have M5 : LmMem w5 p N NW NS S:=HMR.out.toClk hO _ _ hC HLL.out;obtain ⟨n1, n2, n3⟩:=nx.out w5 M5 hO;obtain ⟨d0, d1, d2⟩:=HLK.out w5 M5;have g1:=HGK.out w5 n2.out;rw [Option.map_some] at d0;clear M5 hC hO HNI HIS HMR nx HLK HGK m2 m3 m4;go_wp2_with fail;go_quiet (fail)
      have n4 : Aside (LmMem (w5.drewN nq) p N NW NS S):=n1.out.drewN nq;have n5 : Aside (Blk (w5.drewN nq) w.heap.size 3 (intCells (refRow S NS hd []))):=n2.out.drewN nq;have n6 : Aside (Only (p.set S.sl) w (w5.drewN nq)):=n3.out.drewN nq;clear n1 n2 n3 d0 d1 d2 g1;go_wp2_with fail;go_roundg g3
      case measure => omega
      case rel => exact ⟨s + 1, by omega, by omega, by go_num, n4, n5, n6⟩
     ·have e1 : decide (id ≠ 0) = true:=by simp [h1]
      rw [e1] at HNI;simp only [Option.isSome_none] at HIS;clear e1 h1;go_wp2_with fail;refine HNI.out.mono ?_;rintro e w5 ⟨rfl, rfl⟩;go_wp2_with fail;refine HIS.out.mono ?_;rintro e w5 ⟨rfl, hC, hO⟩;have M5 : LmMem w5 p N NW NS S:=HMR.out.toClk hO _ _ hC HLL.out;obtain ⟨n1, n2, n3⟩:=nx.out w5 M5 hO;obtain ⟨d0, d1, d2⟩:=HLK.out w5 M5;have g1:=HGK.out w5 n2.out;rw [Option.map_none] at d0;clear M5 hC hO HNI HIS HMR nx HLK HGK m2 m3 m4;go_wp2_with fail;go_quiet (fail)
      have n4 : Aside (LmMem (w5.drewN nq) p N NW NS S):=n1.out.drewN nq;have n5 : Aside (Blk (w5.drewN nq) w.heap.size 3 (intCells (refRow S NS hd []))):=n2.out.drewN nq;have n6 : Aside (Only (p.set S.sl) w (w5.drewN nq)):=n3.out.drewN nq;clear n1 n2 n3 d0 d1 d2 g1;go_wp2_with fail;go_roundg g3
      case measure => omega
      case rel => exact ⟨s + 1, by omega, by omega, by go_num, n4, n5, n6⟩
     ·have e1 : decide ((0 : Int) ≠ 0) = false:=by decide
      rw [e1] at HNI;simp only [Option.isSome_none] at HIS;clear e1;go_wp2_with fail;refine HNI.out.mono ?_;rintro e w5 ⟨rfl, rfl⟩;go_wp2_with fail;refine HIS.out.mono ?_;rintro e w5 ⟨rfl, hC, hO⟩;have M5 : LmMem w5 p N NW NS S:=HMR.out.toClk hO _ _ hC HLL.out;obtain ⟨n1, n2, n3⟩:=nx.out w5 M5 hO;obtain ⟨d0, d1, d2⟩:=HLK.out w5 M5;have g1:=HGK.out w5 n2.out;rw [Option.map_none] at d0;clear M5 hC hO HNI HIS HMR nx HLK HGK m2 m3 m4;go_wp2_with fail;go_quiet (fail)
      have n4 : Aside (LmMem (w5.drewN nq) p N NW NS S):=n1.out.drewN nq;have n5 : Aside (Blk (w5.drewN nq) w.heap.size 3 (intCells (refRow S NS hd []))):=n2.out.drewN nq;have n6 : Aside (Only (p.set S.sl) w (w5.drewN nq)):=n3.out.drewN nq;clear n1 n2 n3 d0 d1 d2 g1;go_wp2_with fail;go_roundg g3
      case measure => omega
      case rel => exact ⟨s + 1, by omega, by omega, by go_num, n4, n5, n6⟩
    | zero =>
     have hsN : ¬ ((s : Int) < (NS : Int) + 1):=by omega
     obtain ⟨m0, -, -, -, -, -⟩:=MR.look2;have hids:=secIds_any p.Q N S.D wr MR.disk;obtain ⟨nd, hnd⟩ : ∃ nd, nd = S.D.length:=⟨_, rfl⟩;rw [<- hnd] at hids;have hnd2 : nd <= 2000:=by rw [hnd]; exact MR.disk.small
     have HIDS:=Lib.hid hids;have HMR:=Lib.hid MR;have HOR:=Lib.hid hO.out;have HND:=Lib.hid hnd;clear hids hnd MR hM hB hO m2 m3;go_wp2_with fail;refine HIDS.out.mono ?_;rintro e w6 ⟨v, rfl, hv, hb6⟩;obtain ⟨A, cap6, rfl, hlc6, hc66, -, -⟩:=hv.reads (fun x hx => by have:=(upto_mem nd x).1 hx; omega);have hul:=upto_length nd;rw [hul] at hlc6 hv ⊢;have m6:=HMR.out.below hb6;have o6:=HOR.out.trans (only_of hb6 _);have hlr:=HMR.out.lt p.Q.P.d ⟨1, .inr (.inr (.inr (.inl rfl)))⟩;have HV6:=Lib.hid hv;clear hv hul hb6 HIDS HMR HOR;go_wp2_with fail;go_loopg [18, 228] nd (fun gk s18 s228 wz => ∃ j : Nat, j + gk = nd /\ s18 = .int .i64 (rowsLen (rowsV (S.D.take j)) : Nat) /\ s228 = .int .i64 j /\ Aside (LmMem wz p N NW NS S) /\ Aside (Only (p.set S.sl) w wz) /\ Aside (Only (fun g => g = p.Q.P.d) w6 wz))
     case atStart => exact ⟨0, by omega, by simp [rowsLen, rowsV], rfl, m6, o6, Only.refl _ _⟩
     case round =>
      clear m6 o6 m0 m4;obtain ⟨j, hj, rfl, rfl, hM, hO, hO6⟩:=hrel;have MR:=hM.out;obtain ⟨m0, m1, -, -, -, -⟩:=MR.look2;cases gk with
      | succ g4 =>
       have hjn : (j : Int) < nd:=by omega
       have hv:=HV6.out.only hO6.out (fun g e => by omega);have hul:=upto_length nd;obtain ⟨A1, cap1, e1, -, -, hA, -⟩:=hv.reads (fun x hx => by have:=(upto_mem nd x).1 hx; omega);injection e1 with e1 e2 e3;subst e1;clear e2 e3;have hxj : (upto nd)[j]? = some ((j : Int) + 1):=by unfold upto; rw [List.getElem?_map, List.getElem?_range (by omega)]; rfl
       obtain ⟨_, bb, off, rfl, _, a0⟩:=hA j _ hxj;obtain ⟨o, ho⟩ : ∃ o, S.D[j]? = some o:=⟨_, getElem?_eq_getElem (by have:=HND.out; omega)⟩;have hok:=MR.disk.ok o (mem_of_getElem? ho);have hbv:=MR.disk.vals ho;have hft:=fetch_ok p.Q N S.D j o wr MR.disk ho;have hes:=encM_small hok;obtain ⟨T, hT⟩ : ∃ T, T = rowsLen (rowsV (S.D.take j)):=⟨_, rfl⟩;have htk:=rows_take S.D j o ho;have hTb : T <= 300000:=by have h1:=rows_bound (S.D.take j) (fun x hx => MR.disk.ok x (List.mem_of_mem_take hx));have h2 : (S.D.take j).length <= 2000:=Nat.le_trans (List.length_take_le _ _) (by omega);omega
       obtain ⟨L, hL⟩ : ∃ L, L = (encM o).length:=⟨_, rfl⟩;obtain ⟨a, ha⟩ : ∃ a, a = (L + 63) / 64:=⟨_, rfl⟩;rw [<- hL] at htk hes;have hsec : secs L = a:=by unfold secs; rw [<- ha]; omega
       rw [<- hT, hsec] at htk;rw [<- hT];have q1 : ((L : Int) + 63) / 64 = (a : Int):=by omega
       have q2 : ((L : Int) + 63).tdiv 64 = (a : Int):=by rw [Int.tdiv_eq_ediv_of_nonneg (by omega)]; exact q1
       have q3 : IntKind.i64.wrap (a : Int) = (a : Int):=by rw [IntKind.wrap_i64]; omega
       have q4 : 1 <= a /\ a <= 200:=by omega
       have HFT:=Lib.hid hft;have HOK:=Lib.hid hok;have HBV:=Lib.hid hbv;have HMR:=Lib.hid MR;have HOR:=Lib.hid hO.out;have HO6:=Lib.hid hO6.out;have HTK:=Lib.hid htk;have HLE:=Lib.hid hL;obtain ⟨q5, q6⟩:=q4;have hset : ∀ k, k = p.Q.P.d -> p.set S.sl k:=fun k e => by subst e; exact ⟨1, .inr (.inr (.inr (.inl rfl)))⟩
       have HSET:=Lib.hid hset;clear hft hok hbv MR hM hO hO6 htk hT hL ha hsec hv hul hA hxj ho hset m1;go_wp2_with fail;refine HFT.out.mono ?_;rintro e w8 ⟨y, rfl, hF, hS, hO8⟩;obtain ⟨B1, cb1, B2, cb2, rfl, hR, -, -, -, -⟩:=hF.parts HOK.out HBV.out;have hal:=(Below.refl w8.heap.size w8).alloc (Nat.le_refl _) (.cells (obV o B1 cb1 B2 cb2) 29);have m8:=(HMR.out.taken hS hO8).below hal;have o8:=(HOR.out.trans (hO8.mono HSET.out)).trans (only_of hal _);have o9:=(HO6.out.trans hO8).trans (only_of hal _);have hen:=encode_ok o B1 cb1 B2 cb2 _ (hR.alloc (.cells (obV o B1 cb1 B2 cb2) 29)) HOK.out;unfold obV at hen m8 o8 o9 ⊢;have HEN:=Lib.hid hen;have HM8:=Lib.hid m8;have HO8:=Lib.hid o8;have HO9:=Lib.hid o9;clear hen m8 o8 o9 hal hR hF hS hO8 HMR HOR HO6 HFT;go_wp2_with fail;refine HEN.out.mono ?_;rintro e w9 ⟨vb, rfl, hvb, hb9⟩;obtain ⟨A9, c9, rfl, l9, l10, -, -⟩:=hvb.reads2 (encM_vals HBV.out);rw [<- HLE.out] at l9 ⊢;have n1 : Aside (LmMem w9 p N NW NS S):=HM8.out.below hb9;have n2 : Aside (Only (p.set S.sl) w w9):=HO8.out.trans (only_of hb9 _);have n3 : Aside (Only (fun g => g = p.Q.P.d) w6 w9):=HO9.out.trans (only_of hb9 _);have q7 : IntKind.i64.wrap ((T : Int) + (a : Int)) = (T : Int) + (a : Int):=by rw [IntKind.wrap_i64]; omega
       have q8 : (1 : Int) <= (a : Int):=by omega
       clear hvb hb9 HM8 HO8 HO9 HEN HBV HOK;have q9 : Hid ((T : Int) + max (((L : Int) + 64 - 1) / 64) 1 = ((rowsLen (rowsV (S.D.take (j + 1))) : Nat) : Int)):=Lib.hid (by
        have e1 : ((L : Int) + 64 - 1) / 64 = (a : Int):=by omega
        rw [e1, Int.max_eq_left q8, HTK.out, Int.natCast_add])
       clear HTK HLE;go_wp2_with fail;go_roundg g4
       case measure => omega
       case rel => exact ⟨j + 1, by omega, by rw [q9.out], by go_num, n1, n2, n3⟩
      | zero =>
       have hjn : ¬ ((j : Int) < nd):=by omega
       have ej : S.D.take j = S.D:=take_of_length_le (by have:=HND.out; omega);rw [ej];have hbk:=heapBlocks_any p.H NW S.hc S.V S.t wr MR.heap;have hbn:=HI.out.blocksN (fun k ws hk => (MR.heap.vals hk).1);rw [<- HHD.out] at hbn;obtain ⟨U, hU⟩ : ∃ U, U = rowsLen (rowsV S.D):=⟨_, rfl⟩;rw [<- hU];have hbv : ∀ x ∈ zI (heldV S.V S.hc), 0 <= x /\ x <= 100000:=fun x hx => by obtain ⟨k, hk, rfl⟩:=List.mem_map.1 hx;unfold heldV at hk;have h1:=List.mem_range.1 (List.mem_filter.1 hk).1;have h2:=HI.out.count;omega
       have hus:=fun (W : World) (hW : LmMem W p N NW NS S) => secUsed_any p.Q N S.D W hW.disk;rw [<- hU] at hus;have hql : (zI (heldV S.V S.hc)).length = q:=by have:=HN.out;simp only [zI, List.length_map];omega
       have HBK:=Lib.hid hbk;have HBV:=Lib.hid hbv;have HUS:=Lib.hid hus;have HQL:=Lib.hid hql;have HMR:=Lib.hid MR;have HOR:=Lib.hid hO.out;clear hbk hbv hus hql hbn hU ej MR hM hO hO6;go_wp2_with fail;refine HBK.out.mono ?_;rintro e w8 ⟨v, rfl, hv, hb8⟩;obtain ⟨A8, c8, rfl, l8, l9, -, -⟩:=hv.reads (fun x hx => by have:=HBV.out x hx; omega);rw [HQL.out] at l8 ⊢;have M8:=HMR.out.below hb8;have O8:=HOR.out.trans (only_of hb8 _);obtain ⟨m0, -, -, -, -, -⟩:=M8.look2;have hu8:=HUS.out w8 M8;have fin : SoundPost p N NW NS S w (.returned (.bool true)) w8:=⟨rfl, M8, Step.of (fun k h => h) O8⟩;have FIN:=Lib.hid fin;have HU8:=Lib.hid hu8;have hqq : ((q : Int) == (q : Int)) = true:=by simp
       have huu : ((U : Int) == (U : Int)) = true:=by simp
       clear hu8 fin M8 O8 hv hb8 HBK HBV HUS HMR HOR;go_wp2_with fail;refine HU8.out.mono ?_;rintro e w9 ⟨rfl, rfl⟩;go_wp2_with fail;go_ret;exact FIN.out
end Go.Proofs.YtgaemfghpibeeaaGreatDoor
namespace Go.Proofs.YtgaemfghpibeeaaGreatDoor
open Go.RowKit Go.Maps
structure FlO where
 a : Nat
 g : Nat
structure FlP where
 f : Nat
 t : Nat
 l : List FlO
def FlP.set (P : FlP) (k : Nat) : Prop:=k = P.f \/ k = P.t \/ ∃ (i : Nat) (o : FlO), P.l[i]? = some o /\ (k = o.a \/ k = o.g)
def flA (v : Ob) (g : Nat) : Option Addr:=if v.kind = 1 then some ⟨g, 0, none⟩ else none
def flB (v : Ob) (g : Nat) : Option Addr:=if v.kind = 1 then none else some ⟨g, 0, none⟩
structure ObjAt (w : World) (o : FlO) (v : Ob) : Prop where
 head : Blk w o.a 29 (obV v (flA v o.g) v.ws.length (flB v o.g) v.bs.length)
 row1 : v.kind = 1 -> Blk w o.g 3 (intCells v.ws)
 row2 : v.kind ≠ 1 -> Blk w o.g 5 (byteCells v.bs)
 ok : checkM v = true
 vals : ∀ x ∈ v.bs, 0 <= x /\ x <= 255
theorem ObjAt.only {S : Nat -> Prop} {w w' : World} {o : FlO} {v : Ob} (h : ObjAt w o v) (ho : Only S w w') (h1 : ¬ S o.a) (h2 : ¬ S o.g) : ObjAt w' o v :=
 ⟨h.head.only ho h1, fun k => (h.row1 k).only ho h2, fun k => (h.row2 k).only ho h2, h.ok, h.vals⟩
theorem ObjAt.lt {w : World} {o : FlO} {v : Ob} (h : ObjAt w o v) : o.a < w.heap.size /\ o.g < w.heap.size:=by
 refine ⟨h.head.lt, ?_⟩;by_cases hk : v.kind = 1
 ·exact (h.row1 hk).lt
 ·exact (h.row2 hk).lt
theorem ObjAt.res {w : World} {o : FlO} {v : Ob} (h : ObjAt w o v) : ObR w v (flA v o.g) v.ws.length (flB v o.g) v.bs.length:=by
 obtain ⟨h1, h2⟩:=checkM_parts h.ok;have hbd:=checkM_bd h.ok;have b1:=hbd v.cls (by simp);have b2:=hbd v.kind (by simp);refine ⟨?_, ?_, Nat.le_refl _, Nat.le_refl _, ?_, ?_, ?_, ?_, by omega, by omega⟩
 ·unfold flA;rcases h2 with ⟨hk, _⟩ | ⟨hk, hw, _⟩
  ·rw [if_pos hk];exact Ints.of_blk (h.row1 hk) (fun x hx => by have:=hbd x (by simp [hx]); omega)
  ·rw [hw]; exact Ints.nil _ _
 ·unfold flB;rcases h2 with ⟨hk, hb, _⟩ | ⟨hk, _, _⟩
  ·rw [hb]; exact Byts.nil _ _
  ·rw [if_neg (by omega)];exact Byts.of_blk (h.row2 (by omega)) h.vals
 ·rcases h2 with ⟨_, _, h3, _⟩ | ⟨_, h3, _⟩
  ·omega
  ·rw [h3]; simp
 ·rcases h2 with ⟨_, h3, _⟩ | ⟨_, _, h3⟩
  ·rw [h3]; simp
  ·omega
 ·unfold flA;intro e;rcases h2 with ⟨hk, _⟩ | ⟨_, h3, _⟩
  ·rw [if_pos hk] at e; cases e
  ·rw [h3]; rfl
 ·unfold flB;intro e;rcases h2 with ⟨_, h3, _⟩ | ⟨hk, _, _⟩
  ·rw [h3]; rfl
  ·rw [if_neg (by omega)] at e; cases e
structure FlatAt (w : World) (P : FlP) (V : List Ob) : Prop where
 head : Blk w P.f 104 #[.map (some P.t), .int .i64 V.length]
 table : ∃ D, MapAt w 3 P.t D /\ Maps.size D <= V.length /\ (∀ (i : Nat) (o : FlO), P.l[i]? = some o -> D.atKey (idL (i + 1)) (.held (.pointer none)) = .held (.pointer (some ⟨o.a, 0, none⟩))) /\ ∀ id : Int, (id < 1 \/ (V.length : Int) < id) -> Maps.has D (.int .i64 id) = false
 len : P.l.length = V.length
 objs : ∀ (i : Nat) (o : FlO) (v : Ob), P.l[i]? = some o -> V[i]? = some v -> ObjAt w o v
 small : V.length <= 2000
 ft : P.f ≠ P.t
 off : ∀ (i : Nat) (o : FlO), P.l[i]? = some o -> o.a ≠ P.f /\ o.a ≠ P.t /\ o.g ≠ P.f /\ o.g ≠ P.t /\ o.a ≠ o.g
 apart : ∀ (i j : Nat) (o o' : FlO), P.l[i]? = some o -> P.l[j]? = some o' -> i ≠ j -> o.a ≠ o'.a /\ o.g ≠ o'.g /\ o.a ≠ o'.g /\ o.g ≠ o'.a
theorem FlatAt.get {w : World} {P : FlP} {V : List Ob} (h : FlatAt w P V) {i : Nat} {v : Ob} (hv : V[i]? = some v) : ∃ o, P.l[i]? = some o:=⟨_, getElem?_eq_getElem (by rw [h.len]; exact (List.getElem?_eq_some_iff.1 hv).1)⟩
theorem FlatAt.get2 {w : World} {P : FlP} {V : List Ob} (h : FlatAt w P V) {i : Nat} {o : FlO} (ho : P.l[i]? = some o) : ∃ v, V[i]? = some v:=⟨_, getElem?_eq_getElem (by rw [<- h.len]; exact (List.getElem?_eq_some_iff.1 ho).1)⟩
theorem FlatAt.lt {w : World} {P : FlP} {V : List Ob} (h : FlatAt w P V) : ∀ k, P.set k -> k < w.heap.size:=by
 rintro k (rfl | rfl | ⟨i, o, ho, hk⟩)
 ·exact h.head.lt
 ·obtain ⟨D, hM, _⟩:=h.table;exact hM.lt
 ·obtain ⟨v, hv⟩:=h.get2 ho;obtain ⟨h1, h2⟩:=(h.objs i o v ho hv).lt;rcases hk with rfl | rfl
  ·exact h1
  ·exact h2
theorem FlatAt.only {S : Nat -> Prop} {w w' : World} {P : FlP} {V : List Ob} (h : FlatAt w P V) (ho : Only S w w') (hs : ∀ k, P.set k -> ¬ S k) : FlatAt w' P V:=by obtain ⟨D, hM, h1⟩:=h.table;exact ⟨h.head.only ho (hs _ (.inl rfl)), ⟨D, hM.keep ho (hs _ (.inr (.inl rfl))), h1⟩, h.len, fun i o v h2 h3 => (h.objs i o v h2 h3).only ho (hs _ (.inr (.inr ⟨i, o, h2, .inl rfl⟩))) (hs _ (.inr (.inr ⟨i, o, h2, .inr rfl⟩))), h.small, h.ft, h.off, h.apart⟩
theorem FlatAt.below {w w' : World} {P : FlP} {V : List Ob} (h : FlatAt w P V) (hb : Below w.heap.size w w') : FlatAt w' P V:=h.only (only_of hb (fun _ => False)) (fun _ _ h => h)
theorem flatNew_any (w : World) : Calls Tryz.prog 11 #[] w fun e w' => ∃ P : FlP, e = .returned (.pointer (some ⟨P.f, 0, none⟩)) /\ FlatAt w' P [] /\ (∀ k, P.set k -> w.heap.size <= k) /\ Below w.heap.size w w':=by
 have hmm:=@run_makeMap Tryz.prog;have hM:=MapAt.made w 3;have hM2:=hM.keep ((Only.refl (fun _ => False) _).alloc (.cells #[.map (some w.heap.size), .int .i64 0] 104)) (fun h => h);have b0 : Blk ((w.alloc (.map #[] 0)).alloc (.cells #[.map (some w.heap.size), .int .i64 0] 104)) (w.heap.size + 1) 104 #[.map (some w.heap.size), .int .i64 0]:=by
  have:=Blk.new (w.alloc (.map #[] 0)) 104 #[.map (some w.heap.size), .int .i64 0];have e : (w.alloc (.map #[] 0)).heap.size = w.heap.size + 1:=by simp
  rwa [e] at this
 have hb2:=((Below.refl w.heap.size w).alloc (Nat.le_refl _) (.map #[] 0)).alloc (by simp) (.cells #[.map (some w.heap.size), .int .i64 0] 104);clear hM;go_enter Tryz.func11, Tryz.ntmps11;go_wp2_with fail;go_ret;refine ⟨⟨w.heap.size + 1, w.heap.size, []⟩, rfl, ⟨b0, ⟨.map [], hM2, by simp [Maps.size], by simp, fun _ _ => rfl⟩, rfl, by simp, by simp, by simp, by simp, by simp⟩, ?_, hb2⟩;rintro k (rfl | rfl | ⟨i, o, ho, _⟩)
 ·dsimp only; omega
 ·dsimp only; omega
 ·simp at ho
theorem fmade_any (P : FlP) (V : List Ob) (w : World) (h : FlatAt w P V) :
  Calls Tryz.prog 231 #[.pointer (some ⟨P.f, 0, none⟩)] w fun e w' => e = .returned (.int .i64 V.length) /\ w = w':=by
 have c1:=h.head.cell 1;simp only [qTa, qTb, qTc] at c1;clear h;go_enter Tryz.func231, Tryz.ntmps231;go_wp2_with fail;go_ret;exact ⟨rfl, rfl⟩
theorem fat_yes (P : FlP) (V : List Ob) (i : Nat) (o : FlO) (w : World) (h : FlatAt w P V) (ho : P.l[i]? = some o) :
  Calls Tryz.prog 237 #[.pointer (some ⟨P.f, 0, none⟩), .int .i64 (2 * ((i : Int) + 1))] w fun e w' => e = .returned (.tuple #[.pointer (some ⟨o.a, 0, none⟩), .int .i64 0]) /\ w = w':=by
 have c0:=h.head.cell 0;simp only [qTa, qTb] at c0;have hsm:=h.small;have hil:=(List.getElem?_eq_some_iff.1 ho).1;rw [h.len] at hil;have hnm:=named_any (2 * ((i : Int) + 1)) w;have hval : namM (2 * ((i : Int) + 1)) = ((i : Int) + 1, true):=by
  unfold namM;rw [if_neg (by omega)]
  congr 1;omega
 rw [hval] at hnm;obtain ⟨D, hM, _, hat, _⟩:=h.table;have h2:=hat i o ho;have hkey : keyOf Tryz.prog 3 (.int .i64 ((i : Int) + 1)) = some (idL (i + 1)):=by have:=keyI (a:=(i : Int) + 1) (by omega);rw [this];unfold idL;rw [Int.natCast_add]; rfl
 obtain ⟨v, hrun, hv⟩:=hM.look law3 Tryz.underlying102 (z:=.pointer none) (by kernel_rfl) hkey;rw [h2] at hv;injection hv with hv;rw [<- hv] at hrun;have HNM:=hid hnm;clear hnm hval hM hat h2 hkey hv h ho;go_enter Tryz.func237, Tryz.ntmps237;go_wp2_with fail;refine HNM.out.mono ?_;rintro e w2 ⟨rfl, rfl⟩;go_wp2_with fail;go_ret2;exact ⟨rfl, rfl⟩
theorem fat_no (P : FlP) (V : List Ob) (r : Int) (w : World) (h : FlatAt w P V) (hr : (namM r).1 < 1 \/ (V.length : Int) < (namM r).1) :
  Calls Tryz.prog 237 #[.pointer (some ⟨P.f, 0, none⟩), .int .i64 r] w fun e w' => e = .returned (.tuple #[.pointer none, .int .i64 4]) /\ w = w':=by
 have c0:=h.head.cell 0;simp only [qTa, qTb] at c0;have hnm:=named_any r w;have hbd:=namM_bd r;obtain ⟨D, hM, _, _, hno⟩:=h.table;have h1:=hno (namM r).1 hr;obtain ⟨q, hq⟩ : ∃ q, q = namM r:=⟨_, rfl⟩;rw [<- hq] at hnm h1 hbd;obtain ⟨id, ok⟩:=q;obtain ⟨v, hrun, hv⟩:=hM.look law3 Tryz.underlying102 (z:=.pointer none) (by kernel_rfl) (keyI (a:=id) (by dsimp only at hbd; omega));rw [atKey_of_not_has h1] at hv;injection hv with hv;rw [<- hv] at hrun;have HNM:=hid hnm;clear hnm h1 hno hv hM h hr hq;go_enter Tryz.func237, Tryz.ntmps237;go_wp2_with fail;refine HNM.out.mono ?_;rintro e w2 ⟨rfl, rfl⟩;go_wp2_with fail;go_ret2;exact ⟨rfl, rfl⟩
end Go.Proofs.YtgaemfghpibeeaaGreatDoor
namespace Go.Proofs.YtgaemfghpibeeaaGreatDoor
open Go.RowKit
theorem res_cell1 {P : Program} {fn : Func} {p : Tmp} {ty : TypeId} (h : fn.results = #[.cell p ty]) (tmps : Array Value) (w : World) (g : Nat) (t : TypeId) (cs : Array Value) (fr : Nat × Nat) (d : TypeDesc)
  (hp : tmps.getD p undef = .pointer (some ⟨g, 0, none⟩)) (hg : w.heap[g]? = some (.cells cs t fr))
  (hu : P.underlying ty = some d) (hd : (match d with | .struct _ | .array _ _ => true | _ => false) = true) (hi : (P.info? ty).map (·.size) = some cs.size) :
  (results fn tmps).run P w = .ok (.agg cs) w:=by
 have hp' : tmps[p]?.getD undef = .pointer (some ⟨g, 0, none⟩):=by simpa using hp
 simp [results, h, hp', asAddr, run_loadVar_row w g t ty cs fr d hg hu hd hi]
theorem ints_eql_nil (W : World) (a : Option Addr) (n c : Nat) : (binOp .eql 26 (.slice a n c) (.slice none 0 0)).run Tryz.prog W = .ok (.bool a.isNone) W:=by
 have h : ∀ d : Nat, (Op.equalIn (d + 1) 26 (.slice a n c) (.slice none 0 0)).run Tryz.prog W = .ok a.isNone W:=fun d => by cases a <;> simp [Op.equalIn, run_underlying Tryz.underlying26]
 simp only [binOp];simp [Op.equal, Op.maxDepth, h 9999]
theorem clonei_any (w : World) (A : Option Addr) (xs : List Int) (cap : Nat) (hA : Ints w A xs) (hbig : xs.length <= 1048576) (hnone : A = none -> cap = 0) :
  Calls Tryz.prog 240 #[.slice A xs.length cap] w fun e w' => ∃ v, e = .returned v /\ OwnsI w' w.heap.size v xs /\ Below w.heap.size w w' /\ (A = none -> v = .slice none 0 0):=by
 have hnil:=ints_eql_nil;cases A with
 | none =>
  have hb : xs = []:=by
   cases xs with
   | nil => rfl
   | cons x l => obtain ⟨_, b, off, hA, _⟩:=hA 0 x rfl; cases hA
  subst hb;clear hbig hnone hA;go_enter Tryz.func240, Tryz.ntmps240;go_wp2;go_ret;exact ⟨_, rfl, World.ownsRow_nil _ _ _ _, Below.refl _ _, fun _ => rfl⟩
 | some a =>
  have b0:=Blk.new w 3 #[];have ho : OwnsI (w.alloc (.cells #[] 3)) w.heap.size (.slice (some ⟨w.heap.size, 0, none⟩) 0 0) []:=OwnsI.of_blk (xs:=[]) b0 (Nat.le_refl _) (by simp) (by omega) rfl rfl;have hB1:=hA.alloc (.cells #[] 3);have hb0:=(Below.refl w.heap.size w).alloc (Nat.le_refl _) (.cells #[] 3);have HB:=hid hB1;clear hA hB1 b0 hnone;go_enter Tryz.func240, Tryz.ntmps240;go_wp2_with (at_builtin; refine append_ints rfl _ _ rfl w.heap.size _ [] rfl ho (some a) xs _ _ rfl rfl HB.out (fun h => by cases h) ?c1 (by simp) ?_)
  case c1 => have : ([] : List Int).length = 0:=rfl;omega
  intro v5 w5 hown5 hg5;have hb5:=hb0.grown hg5 (by simp) (fun k hk => (ho.lt k hk).1);have hown6 : OwnsI w5 w.heap.size v5 xs:=by simpa using hown5
  clear hown5 hg5 ho hb0 HB;go_wp2;go_ret;exact ⟨_, rfl, hown6, hb5, fun h => by cases h⟩
theorem cloneb_none (cap : Nat) (w : World) (hc : cap = 0) : Calls Tryz.prog 97 #[.slice none 0 cap] w fun e w' => e = .returned (.slice none 0 0) /\ w = w':=by have hnil:=bytes_eql_nil;subst hc;go_enter Tryz.func97, Tryz.ntmps97;go_wp2;go_ret;exact ⟨rfl, rfl⟩
theorem copy_any (v : Ob) (A : Option Addr) (ca : Nat) (B : Option Addr) (cb : Nat) (w : World) (h : ObR w v A ca B cb) (hc : checkM v = true) (h1 : v.kind = 1 -> B = none) (h2 : v.kind = 2 -> A = none) :
  Calls Tryz.prog 238 #[.agg (obV v A ca B cb)] w fun e w' => ∃ y, e = .returned y /\ FreshO v w y w' /\ Below w.heap.size w w':=by
 obtain ⟨_, hk⟩:=checkM_parts hc;have hlw : v.ws.length <= 1000 /\ v.bs.length <= 1000:=by
  rcases hk with ⟨_, b, c, _⟩ | ⟨_, b, c⟩
  ·rw [b]; exact ⟨c, by simp⟩
  ·rw [b]; exact ⟨by simp, c⟩
 obtain ⟨n1, hn1⟩ : ∃ n, n = v.ws.length:=⟨_, rfl⟩;obtain ⟨n2, hn2⟩ : ∃ n, n = v.bs.length:=⟨_, rfl⟩;have cl1 : ∀ (W : World) (_ : Below w.heap.size w W), Calls Tryz.prog 240 #[.slice A v.ws.length ca] W fun e w' => ∃ A1 c1, e = .returned (.slice A1 v.ws.length c1) /\ OwnsI w' W.heap.size (.slice A1 v.ws.length c1) v.ws /\ Below W.heap.size W w' /\ (A = none -> (.slice A1 v.ws.length c1 : Value) = .slice none 0 0):=fun W hb => by refine (clonei_any W A v.ws ca (h.ints.below hb) (by omega) h.na).mono ?_;rintro e w' ⟨y, he, ho, hb2, hn⟩;obtain ⟨A1, c1, rfl, _⟩:=ho.reads h.ints.vals;exact ⟨A1, c1, he, ho, hb2, hn⟩
 have cl2 : ∀ (W : World) (_ : Below w.heap.size w W), Calls Tryz.prog 97 #[.slice B v.bs.length cb] W fun e w' => ∃ B1 c2, e = .returned (.slice B1 v.bs.length c2) /\ OwnsB w' W.heap.size (.slice B1 v.bs.length c2) v.bs /\ Below W.heap.size W w' /\ (v.kind = 1 -> (.slice B1 v.bs.length c2 : Value) = .slice none 0 0):=by
  intro W hb;by_cases k1 : v.kind = 1
  ·have eB:=h1 k1;subst eB;have e0:=h.nb rfl;have hbs : v.bs = []:=by
    rcases hk with ⟨_, b, _⟩ | ⟨b, _⟩
    ·exact b
    ·omega
   rw [hbs];refine (cloneb_none cb W e0).mono ?_;rintro e w' ⟨he, rfl⟩;exact ⟨none, 0, he, World.ownsRow_nil _ _ _ _, Below.refl _ _, fun _ => rfl⟩
  ·refine (cloneb_any W B v.bs cb (h.byts.below hb) (by omega) h.nb).mono ?_;rintro e w' ⟨y, he, ho, hb2⟩;obtain ⟨B1, c2, rfl, _⟩:=ho.reads h.byts.vals;exact ⟨B1, c2, he, ho, hb2, fun e => absurd e k1⟩
 rw [<- hn1] at cl1;rw [<- hn2] at cl2;have b0:=(Blk.new w 29 #[.int .i64 v.cls, .int .i64 v.kind, .slice A n1 ca, .slice B n2 cb]).alloc (.cells #[.int .i64 0, .int .i64 0, .slice none 0 0, .slice none 0 0] 29);have b1:=Blk.new2 w (.cells #[.int .i64 v.cls, .int .i64 v.kind, .slice A n1 ca, .slice B n2 cb] 29) 29 #[.int .i64 0, .int .i64 0, .slice none 0 0, .slice none 0 0];have hb0:=(((Below.refl w.heap.size w).alloc (Nat.le_refl _) (.cells #[.int .i64 v.cls, .int .i64 v.kind, .slice A n1 ca, .slice B n2 cb] 29)).alloc (by simp) (.cells #[.int .i64 0, .int .i64 0, .slice none 0 0, .slice none 0 0] 29));have CL1:=hid cl1;have CL2:=hid cl2;have H2:=hid h2;unfold obV;rw [<- hn1, <- hn2];have HN1:=hid hn1;have HN2:=hid hn2;clear cl1 cl2 h1 h2 h hc hk hlw hn1 hn2;have B0:=hid b0.drew;have B1:=hid b1.drew;have HB0:=hid (below_drewN hb0 1);have x2:=b0.cell 2;have x3:=b0.cell 3;simp only [qTa, qTb, qTc] at x2 x3;clear b0 b1 hb0;go_enter Tryz.func238, Tryz.ntmps238;go_upto_region 1 with (fail);go_region_with (first | (go_at_call 240; refine (CL1.out _ HB0.out).mono ?_; rintro e w5 ⟨A1, c1, rfl, ho1, hb1, hn1⟩; have y:=B0.out.keep hb1; have y2:=y.cell 2; have y3:=y.cell 3; simp only [qTa, qTb, qTc] at y2 y3; have yf:=y.frozen) | (go_at_call 97; refine (CL2.out _ (HB0.out.trans (hb1.mono HB0.out.size))).mono ?_; rintro e w6 ⟨B1', c2, rfl, ho2, hb2, hn2⟩; have q:=y.keep hb2; have q2:=q.cell 2; have q3:=q.cell 3; simp only [qTa, qTb, qTc] at q2 q3; have qf:=q.frozen))
 all_goals
  have d0:=((q.set_ 2 (.slice A1 n1 c1)).set_ 3 (.slice B1' n2 c2));have d1:=(((B1.out.keep hb1).keep hb2).far (p:=⟨w.heap.size, 2, none⟩) (by dsimp only; omega) (.slice A1 n1 c1)).far (p:=⟨w.heap.size, 3, none⟩) (by dsimp only; omega) (.slice B1' n2 c2);have hbw : Below w.heap.size w w6:=(HB0.out.trans (hb1.mono HB0.out.size)).trans (hb2.mono (HB0.out.trans (hb1.mono HB0.out.size)).size);have o3 : Only (fun k => k = w.heap.size) w6 ((w6.setCell ⟨w.heap.size, 2, none⟩ (.slice A1 n1 c1)).setCell ⟨w.heap.size, 3, none⟩ (.slice B1' n2 c2)):=((Only.refl (fun k => k = w.heap.size) w6).setCell (p:=⟨w.heap.size, 2, none⟩) (.inl rfl) _).setCell (p:=⟨w.heap.size, 3, none⟩) (.inl rfl) _;have hs0 : w.heap.size + 1 + 1 <= ((w.alloc (.cells #[.int .i64 v.cls, .int .i64 v.kind, .slice A n1 ca, .slice B n2 cb] 29)).alloc (.cells #[.int .i64 0, .int .i64 0, .slice none 0 0, .slice none 0 0] 29)).drew.heap.size:=by simp
  have ho1':=((ho1.keep hb2).mono hs0).only o3 (fun g e => by omega);have ho2':=(ho2.mono (Nat.le_trans hs0 hb1.size)).only o3 (fun g e => by omega);generalize (w6.setCell ⟨w.heap.size, 2, none⟩ (.slice A1 n1 c1)).setCell ⟨w.heap.size, 3, none⟩ (.slice B1' n2 c2) = W at d0 d1 o3 ho1' ho2' ⊢;have d0' : Blk W w.heap.size 29 #[.int .i64 v.cls, .int .i64 v.kind, .slice A1 n1 c1, .slice B1' n2 c2]:=d0;have e0:=d0'.cell 0;have e1:=d0'.cell 1;have e2:=d0'.cell 2;have e3:=d0'.cell 3;have l0:=d1.cell 0;have l1:=d1.cell 1;have l2:=d1.cell 2;have l3:=d1.cell 3;have lf:=d1.frozen;simp only [qTa, qTb, qTc] at e0 e1 e2 e3 l0 l1 l2 l3;have D1:=hid d1;have P1:=hid ho1';have P2:=hid ho2';have O3:=hid o3;have HBW:=hid hbw;have N1:=hid hn1;have N2:=hid hn2;clear d0 d1 d0' ho1' ho2' o3 hbw hn1 hn2 ho1 ho2 hb1 hb2 hs0 y y2 y3 yf q q2 q3 qf x2 x3 CL1 CL2 HB0 B0 B1;go_wp2_with fail;have h4:=only_four W (w.heap.size + 1) (.int .i64 v.cls) (.int .i64 v.kind) (.slice A1 n1 c1) (.slice B1' n2 c2);refine bodyPost_ret (res_cell1 rfl _ _ (w.heap.size + 1) 29 _ (0, 0) _ rfl (D1.out.set1111 _ _ _ _) Tryz.underlying29 rfl size29) rfl ⟨_, rfl, ⟨_, _, rfl, ?_, ?_, N2.out, fun e => N1.out (H2.out e)⟩, (((only_of HBW.out (fun _ => False)).then_ O3.out (fun g e => .inr (by omega))).then_ h4 (fun g e => .inr (by omega))).none_below⟩
  ·exact (P1.out.only h4 (fun g e => by omega)).mono (by omega)
  ·exact (P2.out.only h4 (fun g e => by omega)).mono (by omega)
theorem fl_kinds (v : Ob) (g : Nat) : (v.kind = 1 -> flB v g = none) /\ (v.kind = 2 -> flA v g = none):=by unfold flA flB;exact ⟨fun e => if_pos e, fun e => if_neg (by omega)⟩
theorem fobj_yes (P : FlP) (V : List Ob) (i : Nat) (v : Ob) (w : World) (h : FlatAt w P V) (hv : V[i]? = some v) :
  Calls Tryz.prog 234 #[.pointer (some ⟨P.f, 0, none⟩), .int .i64 (2 * ((i : Int) + 1))] w fun e w' => ∃ y, e = .returned (.tuple #[y, .int .i64 0]) /\ FreshO v w y w' /\ Below w.heap.size w w':=by
 obtain ⟨o, ho⟩:=h.get hv;have hal:=(Below.refl w.heap.size w).alloc (Nat.le_refl _) (.cells zeroO 29);have h1:=h.below hal;have hat:=fat_yes P V i o _ h1 ho;have hob:=h1.objs i o v ho hv;have z0:=Blk.new w 29 zeroO;have hcp:=copy_any v (flA v o.g) v.ws.length (flB v o.g) v.bs.length _ hob.res hob.ok (fl_kinds v o.g).1 (fl_kinds v o.g).2;have hhd:=hob.head;have hpar:=fun (W W' : World) (y : Value) (hF : FreshO v W y W') => hF.parts hob.ok hob.vals;have hol:=hob.lt.1;unfold zeroO at *;unfold obV at hcp hhd hpar;obtain ⟨A, hA⟩ : ∃ A, A = flA v o.g:=⟨_, rfl⟩;obtain ⟨B, hB⟩ : ∃ B, B = flB v o.g:=⟨_, rfl⟩;obtain ⟨n1, hn1⟩ : ∃ n, n = v.ws.length:=⟨_, rfl⟩;obtain ⟨n2, hn2⟩ : ∃ n, n = v.bs.length:=⟨_, rfl⟩;rw [<- hA, <- hB, <- hn1, <- hn2] at hcp hhd;rw [<- hn1, <- hn2] at hpar;have q0:=hhd.cell 0;have q1:=hhd.cell 1;have q2:=hhd.cell 2;have q3:=hhd.cell 3;simp only [qTa, qTb, qTc] at q0 q1 q2 q3;have HAT:=hid hat;have HCP:=hid hcp;have HP:=hid hpar;have Z0:=hid z0;have HAL:=hid hal;clear hat hcp hpar hhd hob h1 h hv ho hA hB hn1 hn2 z0 hal;go_enter Tryz.func234, Tryz.ntmps234;go_wp2_with fail;refine HAT.out.mono ?_;rintro e w2 ⟨rfl, rfl⟩;go_wp2_with fail;refine HCP.out.mono ?_;rintro e w3 ⟨y, rfl, hF, hb⟩;obtain ⟨A2, ca, B2, cb, rfl, hR, hI, hB, -, -⟩:=HP.out _ _ y hF;have z3:=Z0.out.keep hb;have f3:=z3.frozen;have c0:=z3.cell 0;have c1:=z3.cell 1;have c2:=z3.cell 2;have c3:=z3.cell 3;simp only [qTa, qTb, qTc] at c0 c1 c2 c3;have Z3:=hid z3;have HF:=hid hF;have HB:=hid (HAL.out.trans (hb.mono HAL.out.size));clear z3 hF hR hI hB hb HCP HAT Z0 HAL;go_wp2_with fail;have h4:=only_four w3 w.heap.size (.int .i64 v.cls) (.int .i64 v.kind) (.slice A2 n1 ca) (.slice B2 n2 cb);obtain ⟨vW, vB, hv, hI2, hB2, k1, k2⟩:=HF.out;have e:=congrArg (fun v : Value => v.cells) hv;simp only [Value.cells] at e;have e2:=congrArg (fun a : Array Value => a[2]?) e;have e3:=congrArg (fun a : Array Value => a[3]?) e;simp only [qTa, qTb, qTc] at e2 e3;injection e2 with e2;injection e3 with e3;subst e2;subst e3;rw [World.size_alloc] at hI2 hB2;refine bodyPost_ret (res_cell_tmp rfl _ _ w.heap.size 29 _ (0, 0) _ rfl (Z3.out.set1111 _ _ _ _) Tryz.underlying29 rfl size29) rfl ⟨_, rfl, ⟨_, _, rfl, ?_, ?_, k1, k2⟩, ((only_of HB.out (fun _ => False)).then_ h4 (fun g e => .inr (by omega))).none_below⟩
 ·exact (hI2.only h4 (fun g e => by omega)).mono (by omega)
 ·exact (hB2.only h4 (fun g e => by omega)).mono (by omega)
theorem fobj_no (P : FlP) (V : List Ob) (r : Int) (w : World) (h : FlatAt w P V) (hr : (namM r).1 < 1 \/ (V.length : Int) < (namM r).1) :
  Calls Tryz.prog 234 #[.pointer (some ⟨P.f, 0, none⟩), .int .i64 r] w fun e w' => e = .returned (.tuple #[.agg zeroO, .int .i64 4]) /\ Below w.heap.size w w':=by
 have hal:=(Below.refl w.heap.size w).alloc (Nat.le_refl _) (.cells zeroO 29);have hat:=fat_no P V r _ (h.below hal) hr;have z0:=Blk.new w 29 zeroO;have HAT:=hid hat;have HAL:=hid hal;unfold zeroO at *;have c0:=z0.cell 0;have c1:=z0.cell 1;have c2:=z0.cell 2;have c3:=z0.cell 3;simp only [qTa, qTb, qTc] at c0 c1 c2 c3;clear hat h hr hal;go_enter Tryz.func234, Tryz.ntmps234;go_wp2_with fail;refine HAT.out.mono ?_;rintro e w2 ⟨rfl, rfl⟩;go_wp2_with fail;refine bodyPost_ret (res_cell_tmp rfl _ _ w.heap.size 29 _ (0, 0) _ rfl z0 Tryz.underlying29 rfl size29) rfl ⟨rfl, HAL.out⟩
theorem fplace_any (P : FlP) (V : List Ob) (i j : Nat) (o : FlO) (v : Ob) (w : World) (h : FlatAt w P V) (ho : P.l[i]? = some o) (hv : V[i]? = some v) (hj : j < sizeM v) :
  Calls Tryz.prog 239 #[.pointer (some ⟨P.f, 0, none⟩), .int .i64 (2 * ((i : Int) + 1)), .int .i64 v.kind, .int .i64 j] w fun e w' => e = .returned (.tuple #[.pointer (some ⟨o.a, 0, none⟩), .int .i64 0]) /\ Below w.heap.size w w':=by
 have hat:=fat_yes P V i o w h ho;have hob:=h.objs i o v ho hv;have hsz:=fun W => size_any v (flA v o.g) v.ws.length (flB v o.g) v.bs.length W;have hhd:=hob.head;unfold obV at hsz hhd;obtain ⟨A, hA⟩ : ∃ A, A = flA v o.g:=⟨_, rfl⟩;obtain ⟨B, hB⟩ : ∃ B, B = flB v o.g:=⟨_, rfl⟩;obtain ⟨n1, hn1⟩ : ∃ n, n = v.ws.length:=⟨_, rfl⟩;obtain ⟨n2, hn2⟩ : ∃ n, n = v.bs.length:=⟨_, rfl⟩;obtain ⟨z, hz⟩ : ∃ z, z = sizeM v:=⟨_, rfl⟩;obtain ⟨k, hk⟩ : ∃ k, k = v.kind:=⟨_, rfl⟩;rw [<- hA, <- hB, <- hn1, <- hn2, <- hk] at hhd;rw [<- hA, <- hB, <- hn1, <- hn2, <- hz, <- hk] at hsz;rw [<- hz] at hj;rw [<- hk];have q0:=hhd.cell 0;have q1:=hhd.cell 1;have q2:=hhd.cell 2;have q3:=hhd.cell 3;simp only [qTa, qTb, qTc] at q0 q1 q2 q3;have hkk : (k != k) = false:=by simp
 have hj1 : ¬ ((z : Int) <= (j : Int)):=by omega
 have HAT:=hid hat;have HSZ:=hid hsz;clear hat hsz hhd hob h ho hv hA hB hn1 hn2 hz hk hj;go_enter Tryz.func239, Tryz.ntmps239;go_wp2_with fail;refine HAT.out.mono ?_;rintro e w2 ⟨rfl, rfl⟩;go_wp2_with fail;refine (HSZ.out _).mono ?_;rintro e w3 ⟨rfl, hb⟩;have HB:=hid hb;clear hb;go_wp2_with fail;go_ret2;exact ⟨rfl, HB.out⟩
theorem setW_fl (v : Ob) (j : Nat) (u : Int) (g : Nat) : obV (setW v j u) (flA (setW v j u) g) (setW v j u).ws.length (flB (setW v j u) g) (setW v j u).bs.length = obV v (flA v g) v.ws.length (flB v g) v.bs.length:=by unfold obV flA flB setW;simp only [length_set]
theorem setB_fl (v : Ob) (j : Nat) (u : Int) (g : Nat) : obV (setB v j u) (flA (setB v j u) g) (setB v j u).ws.length (flB (setB v j u) g) (setB v j u).bs.length = obV v (flA v g) v.ws.length (flB v g) v.bs.length:=by unfold obV flA flB setB;simp only [length_set]
theorem FlatAt.turn {w w' : World} {P : FlP} {V : List Ob} {i : Nat} {o : FlO} {v' : Ob} (h : FlatAt w P V) (ho : P.l[i]? = some o) (hO : Only (fun k => k = o.g) w w') (hn : ObjAt w' o v') : FlatAt w' P (V.set i v'):=by
 obtain ⟨f1, f2, f3, f4, f5⟩:=h.off i o ho;obtain ⟨D, hM, h1, h2, h3⟩:=h.table;refine ⟨?_, ⟨D, hM.keep hO (fun e => f4 e.symm), by rw [length_set]; exact h1, h2, by rw [length_set]; exact h3⟩, by rw [length_set]; exact h.len, ?_, by rw [length_set]; exact h.small, h.ft, h.off, h.apart⟩
 ·rw [length_set];exact h.head.only hO (fun e => f3 e.symm)
 ·intro j o2 v2 ho2 hv2;by_cases e : i = j
  ·subst e;have e2:=Option.some.inj (ho.symm.trans ho2);rw [List.getElem?_set_self (by rw [<- h.len]; exact (List.getElem?_eq_some_iff.1 ho).1)] at hv2;cases hv2
   rw [<- e2];exact hn
  ·rw [List.getElem?_set_ne e] at hv2;obtain ⟨a1, a2, a3, a4⟩:=h.apart i j o o2 ho ho2 e;exact (h.objs j o2 v2 ho2 hv2).only hO (fun x => a4 x.symm) (fun x => a2 x.symm)
theorem fset_any (P : FlP) (V : List Ob) (i j : Nat) (v : Ob) (u : Int) (w : World) (h : FlatAt w P V) (hv : V[i]? = some v) (hk : v.kind = 1) (hj : j < v.ws.length) (hu : refM u = true) :
  Calls Tryz.prog 235 #[.pointer (some ⟨P.f, 0, none⟩), .int .i64 (2 * ((i : Int) + 1)), .int .i64 j, .int .i64 u] w fun e w' => e = .returned (.int .i64 0) /\ FlatAt w' P (V.set i (setW v j u)) /\ Only P.set w w':=by
 obtain ⟨o, ho⟩:=h.get hv;have hpl:=fplace_any P V i j o v w h ho hv (by rw [size1 hk]; exact hj);rw [hk] at hpl;have hrf:=fun W => fref_any u W;rw [hu] at hrf;have HPL:=hid hpl;have HRF:=hid hrf;have HF:=hid h;have HO:=hid ho;have HV:=hid hv;have HK:=hid hk;have HU:=hid hu;obtain ⟨n1, hn1⟩ : ∃ n, n = v.ws.length:=⟨_, rfl⟩;have hjn : (j : Int) < n1:=by omega
 have HN1:=hid hn1;clear hpl hrf h ho hv hk hu hj hn1;go_enter Tryz.func235, Tryz.ntmps235;go_wp2_with fail;refine HPL.out.mono ?_;rintro e w2 ⟨rfl, hb⟩;have h2:=HF.out.below hb;have hob:=h2.objs i o v HO.out HV.out;have hhd:=hob.head;have hrw:=hob.row1 HK.out;unfold obV at hhd;rw [flA, if_pos HK.out] at hhd;rw [<- HN1.out] at hhd;have q2:=hhd.cell 2;simp only [qTa, qTb, qTc] at q2;have g1:=hrw.cell j;rw [intCells_get _ _ (by have:=HN1.out; omega)] at g1;have f1:=hrw.frozen j;have hO : Only (fun k => k = o.g) w2 (w2.setCell ⟨o.g, j, none⟩ (.int .i64 u)):=(Only.refl (fun k => k = o.g) w2).setCell (p:=⟨o.g, j, none⟩) (.inl rfl) _;have hoff:=h2.off i o HO.out;have hn : ObjAt (w2.setCell ⟨o.g, j, none⟩ (.int .i64 u)) o (setW v j u):=by refine ⟨by rw [setW_fl]; exact hob.head.only hO hoff.2.2.2.2, fun _ => ?_, fun e => absurd HK.out e, checkM_setW hob.ok HK.out j HU.out, hob.vals⟩;have:=hrw.set_ j (.int .i64 u);rw [intCells_set] at this;exact this
 have fin : FlatAt (w2.setCell ⟨o.g, j, none⟩ (.int .i64 u)) P (V.set i (setW v j u)) /\ Only P.set w (w2.setCell ⟨o.g, j, none⟩ (.int .i64 u)) :=
  ⟨h2.turn HO.out hO hn, (only_of hb _).trans (hO.mono (fun k e => .inr (.inr ⟨i, o, HO.out, .inr e⟩)))⟩
 have FIN:=hid fin;have hol:=hrw.lt;clear fin hn hoff hO hrw hhd hob h2 hb HPL HF HO HV HK HU HN1;go_wp2_with fail;refine (HRF.out _).mono ?_;rintro e w3 ⟨rfl, rfl⟩;go_wp2_with fail;go_ret;exact ⟨rfl, FIN.out⟩
theorem fsetbyte_any (P : FlP) (V : List Ob) (i j : Nat) (v : Ob) (u : Int) (w : World) (h : FlatAt w P V) (hv : V[i]? = some v) (hk : v.kind = 2) (hj : j < v.bs.length) (hu : 0 <= u /\ u <= 255) :
  Calls Tryz.prog 236 #[.pointer (some ⟨P.f, 0, none⟩), .int .i64 (2 * ((i : Int) + 1)), .int .i64 j, .int .i64 u] w fun e w' => e = .returned (.int .i64 0) /\ FlatAt w' P (V.set i (setB v j u)) /\ Only P.set w w':=by
 obtain ⟨o, ho⟩:=h.get hv;have hpl:=fplace_any P V i j o v w h ho hv (by rw [size2 hk]; exact hj);rw [hk] at hpl;have HPL:=hid hpl;have HF:=hid h;have HO:=hid ho;have HV:=hid hv;have HK:=hid hk;obtain ⟨u0, u1⟩:=hu;obtain ⟨n2, hn2⟩ : ∃ n, n = v.bs.length:=⟨_, rfl⟩;have hjn : (j : Int) < n2:=by omega
 have HN2:=hid hn2;have hu8 : IntKind.u8.wrap u = u:=by rw [IntKind.wrap_u8]; omega
 clear hpl h ho hv hk hj hn2;go_enter Tryz.func236, Tryz.ntmps236;go_wp2_with fail;refine HPL.out.mono ?_;rintro e w2 ⟨rfl, hb⟩;have h2:=HF.out.below hb;have hob:=h2.objs i o v HO.out HV.out;have hne : v.kind ≠ 1:=by have:=HK.out; omega
 have hhd:=hob.head;have hrw:=hob.row2 hne;unfold obV at hhd;rw [flB, if_neg hne] at hhd;rw [<- HN2.out] at hhd;have q3:=hhd.cell 3;simp only [qTa, qTb, qTc] at q3;have hbc : (byteCells v.bs)[j]? = some (.int .u8 (v.bs.getD j 0)):=by
  have hl : j < v.bs.length:=by have:=HN2.out; omega
  simp only [byteCells, qTa, List.getElem?_map, getElem?_eq_getElem hl, Option.map_some, getD_eq_getElem?_getD, Option.getD_some]
 have g1:=hrw.cell j;rw [hbc] at g1;have f1:=hrw.frozen j;have hO : Only (fun k => k = o.g) w2 (w2.setCell ⟨o.g, j, none⟩ (.int .u8 u)):=(Only.refl (fun k => k = o.g) w2).setCell (p:=⟨o.g, j, none⟩) (.inl rfl) _;have hoff:=h2.off i o HO.out;have hn : ObjAt (w2.setCell ⟨o.g, j, none⟩ (.int .u8 u)) o (setB v j u):=by
  refine ⟨by rw [setB_fl]; exact hob.head.only hO hoff.2.2.2.2, fun e => absurd e hne, fun _ => ?_, checkM_setB hob.ok HK.out j u, fun x hx => ?_⟩
  ·have:=hrw.set_ j (.int .u8 u);have e : (byteCells v.bs).setIfInBounds j (.int .u8 u) = byteCells (v.bs.set j u):=by simp [byteCells, List.map_set]
   rw [e] at this;exact this
  ·rcases List.mem_or_eq_of_mem_set hx with h1 | h1
   ·exact hob.vals x h1
   ·rw [h1]; exact ⟨u0, u1⟩
 have fin : FlatAt (w2.setCell ⟨o.g, j, none⟩ (.int .u8 u)) P (V.set i (setB v j u)) /\ Only P.set w (w2.setCell ⟨o.g, j, none⟩ (.int .u8 u)) :=
  ⟨h2.turn HO.out hO hn, (only_of hb _).trans (hO.mono (fun k e => .inr (.inr ⟨i, o, HO.out, .inr e⟩)))⟩
 have FIN:=hid fin;have hol:=hrw.lt;clear fin hn hoff hO hrw hhd hob h2 hb HPL HF HO HV HK HN2 hbc hne;go_wp2_with fail;go_ret;exact ⟨rfl, FIN.out⟩
end Go.Proofs.YtgaemfghpibeeaaGreatDoor
namespace Go.Proofs.YtgaemfghpibeeaaGreatDoor
open Go.RowKit Go.Maps
theorem getElem?_snoc {α : Type} {l : List α} {x y : α} {i : Nat} (h : (l ++ [x])[i]? = some y) : (i < l.length /\ l[i]? = some y) \/ (i = l.length /\ y = x):=by
 rcases Nat.lt_or_ge i l.length with hl | hl
 ·rw [getElem?_append_left hl] at h;exact .inl ⟨hl, h⟩
 ·rw [getElem?_append_right hl] at h;have h1:=(List.getElem?_eq_some_iff.1 h).1;simp at h1;have e : i = l.length:=by omega
  subst e;simp at h;exact .inr ⟨rfl, h.symm⟩
theorem FlatAt.make {w w' : World} {P : FlP} {V : List Ob} {o : Ob} {a g : Nat} {D : DataW Value} (h : FlatAt w P V) (hM : MapAt w 3 P.t D) (hD : Maps.size D <= V.length /\ (∀ (i : Nat) (o : FlO), P.l[i]? = some o -> D.atKey (idL (i + 1)) (.held (.pointer none)) = .held (.pointer (some ⟨o.a, 0, none⟩))) /\ ∀ id : Int, (id < 1 \/ (V.length : Int) < id) -> Maps.has D (.int .i64 id) = false)
  (hh : Blk w' P.f 104 #[.map (some P.t), .int .i64 ((V.length : Int) + 1)]) (hm : MapAt w' 3 P.t (D.put (idL (V.length + 1)) (.held (.pointer (some ⟨a, 0, none⟩))))) (ho : Only (fun k => k = P.f \/ k = P.t) w w') (hn : ObjAt w' ⟨a, g⟩ o) (ha : w.heap.size <= a) (hg : w.heap.size <= g) (hne : a ≠ g) (hsm : V.length < 2000) :
  FlatAt w' { P with l:=P.l ++ [⟨a, g⟩] } (V ++ [o]):=by
 have hT:=World.ownsMap.tidy hM law3;have hlt:=h.lt;have new : ∀ (i : Nat) (x : FlO), P.l[i]? = some x -> x.a < w.heap.size /\ x.g < w.heap.size:=fun i x hx => ⟨hlt _ (.inr (.inr ⟨i, x, hx, .inl rfl⟩)), hlt _ (.inr (.inr ⟨i, x, hx, .inr rfl⟩))⟩;have hf:=hlt _ (.inl rfl);have ht:=hlt _ (.inr (.inl rfl));refine ⟨?_, ⟨_, hm, ?_, ?_, ?_⟩, ?_, ?_, ?_, h.ft, ?_, ?_⟩
 ·have e : ((V ++ [o]).length : Int) = (V.length : Int) + 1:=by simp
  rw [e]; exact hh
 ·rw [size_put hT, length_append];have:=hD.1;split <;> simp <;> omega
 ·intro i x hx;rcases getElem?_snoc hx with ⟨hl, hx⟩ | ⟨rfl, rfl⟩
  ·rw [h.len] at hl;have hne : idL (i + 1) ≠ idL (V.length + 1):=idL_ne (by omega);rw [atKey_put_other hne];exact hD.2.1 i x hx
  ·rw [h.len, atKey_put_same hM.isMap (idL_key _)]
 ·intro id hid;rw [length_append, List.length_singleton] at hid;rw [has_put_other (idL_ne (by omega))];exact hD.2.2 id (by omega)
 ·simp [h.len]
 ·intro i x v hx hv;rcases getElem?_snoc hx with ⟨hl, hx⟩ | ⟨rfl, rfl⟩
  ·rw [h.len] at hl;rw [getElem?_append_left hl] at hv;obtain ⟨f1, f2, f3, f4, _⟩:=h.off i x hx;exact (h.objs i x v hx hv).only ho (fun e => e.elim f1 f2) (fun e => e.elim f3 f4)
  ·rw [h.len] at hv;simp at hv;rw [<- hv];exact hn
 ·simp; omega
 ·intro i x hx;rcases getElem?_snoc hx with ⟨_, hx⟩ | ⟨_, rfl⟩
  ·exact h.off i x hx
  ·dsimp only; omega
 ·intro i j x y hx hy hij;rcases getElem?_snoc hx with ⟨hl, hx⟩ | ⟨e1, rfl⟩
  ·rcases getElem?_snoc hy with ⟨hl2, hy⟩ | ⟨e2, rfl⟩
   ·exact h.apart i j x y hx hy hij
   ·have:=new i x hx;dsimp only; omega
  ·rcases getElem?_snoc hy with ⟨hl2, hy⟩ | ⟨e2, rfl⟩
   ·have:=new j y hy;dsimp only; omega
   ·omega
def FNewPost (P : FlP) (V : List Ob) (o : Ob) (w : World) (e : Ending) (w' : World) : Prop :=
 e = .returned (.tuple #[.int .i64 (2 * ((V.length : Int) + 1)), .int .i64 0]) /\ ∃ l, FlatAt w' { P with l:=l } (V ++ [o]) /\ (∀ k, ({ P with l:=l } : FlP).set k -> P.set k \/ w.heap.size <= k) /\ Only P.set w w'
theorem fnew_any (P : FlP) (V : List Ob) (c k : Int) (n : Nat) (w : World) (h : FlatAt w P V) (hc : (namM c).2 = true) (hcc : -9223372036854775808 <= c /\ c <= 9223372036854775807) (hk : k = 1 \/ k = 2) (hn : n <= 1000) (hsm : V.length < 2000) :
  Calls Tryz.prog 232 #[.pointer (some ⟨P.f, 0, none⟩), .int .i64 c, .int .i64 k, .int .i64 n] w (FNewPost P V (blankM c k n) w):=by
 have hbl : Calls Tryz.prog 166 #[.int .i64 c, .int .i64 k, .int .i64 n] w (BlankPost c k n w):=by
  rcases hk with rfl | rfl
  ·exact blank1_any c n w hc hcc hn
  ·exact blank2_any c n w hc hcc hn
 have hok:=blankM_ok (n:=n) hc hk hn;have HBL:=Lib.hid hbl;have HOK:=Lib.hid hok;have HF:=Lib.hid h;clear hbl hok h hc hcc hn;go_enter Tryz.func232, Tryz.ntmps232;go_wp2_with fail;refine HBL.out.mono ?_;rintro e w2 ⟨A, ca, B, cb, rfl, hR, hb, g, hg, g1, g2⟩;have h2:=HF.out.below hb;obtain ⟨o, ho⟩ : ∃ o, o = blankM c k n:=⟨_, rfl⟩;have hgl : g < w2.heap.size:=by
  by_cases e : k = 1
  ·exact (g1 e).2.2.2.2.lt
  ·exact (g2 e).2.2.2.2.lt
 have hob : ∀ W, Below w2.heap.size w2 W -> Blk W w2.heap.size 29 (obV o A ca B cb) -> ObjAt W ⟨w2.heap.size, g⟩ o:=fun W hW hB => by
  have hok:=HOK.out;rw [<- ho] at hok;have e0 : o.kind = k:=by rw [ho]; rfl
  have e1 : k = 1 -> o.ws = List.replicate n 2 /\ o.bs = []:=fun e => by rw [ho]; simp [blankM, e]
  have e2 : k ≠ 1 -> o.ws = [] /\ o.bs = List.replicate n 0:=fun e => by rw [ho]; simp [blankM, e]
  refine ⟨?_, fun e => ?_, fun e => ?_, hok, fun x hx => ?_⟩
  ·by_cases e : k = 1
   ·obtain ⟨a1, a2, a3, a4, _⟩:=g1 e;have eA : flA o g = A:=by unfold flA; rw [if_pos (e0.trans e), a1]
    have eB : flB o g = B:=by unfold flB; rw [if_pos (e0.trans e), a3]
    dsimp only;rw [eA, eB, (e1 e).1, (e1 e).2, length_replicate, <- a2];have : cb = ([] : List Int).length:=a4;rw [<- this];exact hB
   ·obtain ⟨a1, a2, a3, a4, _⟩:=g2 e;have eA : flA o g = A:=by unfold flA; rw [if_neg (fun x => e (e0.symm.trans x)), a1]
    have eB : flB o g = B:=by unfold flB; rw [if_neg (fun x => e (e0.symm.trans x)), a3]
    dsimp only;rw [eA, eB, (e2 e).1, (e2 e).2, length_replicate, <- a4];have : ca = ([] : List Int).length:=a2;rw [<- this];exact hB
  ·rw [e0] at e;rw [(e1 e).1];exact (g1 e).2.2.2.2.keep hW
  ·rw [e0] at e;rw [(e2 e).2];exact (g2 e).2.2.2.2.keep hW
  ·by_cases e : k = 1
   ·rw [(e1 e).2] at hx; cases hx
   ·rw [(e2 e).2] at hx;rw [(List.mem_replicate.1 hx).2]; omega
 have HOB:=Lib.hid hob;rw [<- ho];have hal:=(Below.refl w2.heap.size w2).alloc (Nat.le_refl _) (.cells (obV o A ca B cb) 29);have h3:=h2.below hal;have b3:=Blk.new w2 29 (obV o A ca B cb);have hob3:=hob _ hal b3;obtain ⟨D, hM0, hD⟩:=HF.out.table;have hM:=hM0.keep ((only_of hb (fun _ => False)).trans (only_of hal _)) (fun h => h);have hkey : keyOf Tryz.prog 3 (.int .i64 ((V.length : Int) + 1)) = some (idL (V.length + 1)):=by rw [keyI (by omega)];unfold idL;rw [Int.natCast_add]; rfl
 obtain ⟨n, hn⟩ : ∃ n, n = V.length:=⟨_, rfl⟩;have hf1:=h3.head;have hfl : P.f < w2.heap.size:=HF.out.below hb |>.lt _ (.inl rfl);have htl : P.t < w2.heap.size:=HF.out.below hb |>.lt _ (.inr (.inl rfl));have hO4 : Only (fun k => k = P.f \/ k = P.t) (w2.alloc (.cells (obV o A ca B cb) 29)) ((w2.alloc (.cells (obV o A ca B cb) 29)).setCell ⟨P.f, 1, none⟩ (.int .i64 ((V.length : Int) + 1))):=(Only.refl _ _).setCell (p:=⟨P.f, 1, none⟩) (.inl (.inl rfl)) _;have hh4:=hf1.set_ 1 (.int .i64 ((V.length : Int) + 1));have hM4:=hM.keep (w':=(w2.alloc (.cells (obV o A ca B cb) 29)).setCell ⟨P.f, 1, none⟩ (.int .i64 ((V.length : Int) + 1))) ((Only.refl (fun k => k = P.f) _).setCell (p:=⟨P.f, 1, none⟩) (.inl rfl) _) (fun e => h3.ft e.symm);have hsz4 : ((w2.alloc (.cells (obV o A ca B cb) 29)).setCell ⟨P.f, 1, none⟩ (.int .i64 ((V.length : Int) + 1))).heap.size = w2.heap.size + 1:=by simp
 obtain ⟨W4, hW4⟩ : ∃ W, W = (w2.alloc (.cells (obV o A ca B cb) 29)).setCell ⟨P.f, 1, none⟩ (.int .i64 ((V.length : Int) + 1)):=⟨_, rfl⟩;rw [<- hW4] at hO4 hh4 hM4 hsz4;obtain ⟨w5, hrun, hM5, hO5⟩:=hM4.drew.store law3 Tryz.underlying102 (by have:=hD.1; omega) hkey (.pointer (some ⟨w2.heap.size, 0, none⟩));have hO5' : Only (fun k => k = P.f \/ k = P.t) (w2.alloc (.cells (obV o A ca B cb) 29)) w5:=(hO4.trans (only_drew _ _)).trans (hO5.mono (fun k e => .inr e));have hh5:=hh4.only ((only_drew _ _).trans hO5) (fun e => h3.ft e);have hz3 : (w2.alloc (.cells (obV o A ca B cb) 29)).heap.size = w2.heap.size + 1:=by simp
 have hOw : Only P.set w w5:=by have o1:=((only_of hb P.set).trans (only_of hal P.set)).trans (hO5'.mono (T:=P.set) (fun k e => e.elim .inl (fun e => .inr (.inl e))));exact o1
 have hh5b : Blk w5 P.f 104 #[.map (some P.t), .int .i64 ((V.length : Int) + 1)]:=hh5;have hob5 : ObjAt w5 ⟨w2.heap.size, g⟩ o:=hob3.only hO5' (fun e => by dsimp only at e; omega) (fun e => by have:=HF.out.lt _ (.inl rfl); have:=HF.out.lt _ (.inr (.inl rfl)); have:=hb.size; dsimp only at e; omega);have hO0 : Only (fun k => k = P.f \/ k = P.t) w w5:=((only_of hb _).trans (only_of hal _)).trans hO5';have hfin:=HF.out.make hM0 hD hh5b hM5 hO0 hob5 hb.size hg (by omega) hsm;have fin : FNewPost P V o w (.returned (.tuple #[.int .i64 (2 * ((V.length : Int) + 1)), .int .i64 0])) w5:=by
  refine ⟨rfl, _, hfin, ?_, hOw⟩;rintro k (rfl | rfl | ⟨i, x, hx, hk⟩)
  ·exact .inl (.inl rfl)
  ·exact .inl (.inr (.inl rfl))
  ·rcases getElem?_snoc hx with ⟨_, hx⟩ | ⟨_, rfl⟩
   ·exact .inl (.inr (.inr ⟨i, x, hx, hk⟩))
   ·have:=hb.size;rcases hk with rfl | rfl
    ·exact .inr (by dsimp only; omega)
    ·exact .inr hg
 have hoop:=fun W => oop_any ((V.length : Int) + 1) W;have e1 : oopM ((V.length : Int) + 1) = 2 * ((V.length : Int) + 1):=by rw [oopM, if_neg (by omega)]
 simp only [e1] at hoop;have c0:=hf1.cell 0;have c1:=hf1.cell 1;have fz:=hf1.frozen 1;have d0:=hh4.cell 0;have d1:=hh4.cell 1;have r1:=hh5b.cell 1;simp only [List.setIfInBounds_toArray, List.set_cons_succ, List.set_cons_zero, qTa, qTb, qTc] at c0 c1 d0 d1 r1;rw [ho] at fin;have FIN:=Lib.hid fin;have HOO:=Lib.hid hoop;unfold obV at hW4 ⊢;obtain ⟨n1, hn1⟩ : ∃ n, n = o.ws.length:=⟨_, rfl⟩;obtain ⟨n2, hn2⟩ : ∃ n, n = o.bs.length:=⟨_, rfl⟩;unfold obV at c1 fz c0;rw [<- hn1, <- hn2] at hW4 c0 c1 fz ⊢;clear fin hoop e1 hfin hO0 hob5 hh5b hh5 hOw hO5' hO5 hM5 hkey hM0 hM hD hM4 hh4 hO4 hf1 hob3 hob HOB h3 h2 hal b3 hb HBL HOK HF hR g1 g2 hn1 hn2 ho;rw [World.setCell_alloc_past _ _ _ _ hfl] at hW4;go_upto_region 7 with (fail);rw [<- hW4];clear hW4 c0 c1 fz;go_region
 go_wp2_with fail;refine (HOO.out _).mono ?_;rintro e w6 ⟨rfl, rfl⟩;go_wp2_with fail;go_ret2;exact FIN.out
end Go.Proofs.YtgaemfghpibeeaaGreatDoor
namespace Go.Proofs.YtgaemfghpibeeaaGreatDoor
open Go.RowKit
inductive Sto where
 | loom (N NW NS : Nat) (p : LmP) (S : St)
 | flat (P : FlP)
def Sto.isL : Sto -> Bool
 | .loom .. => true
 | .flat _ => false
def Sto.blk : Sto -> Nat
 | .loom _ _ _ p _ => p.m
 | .flat P => P.f
def Sto.recv (s : Sto) : Value:=.pointer (some ⟨s.blk, 0, none⟩)
def Sto.val (s : Sto) : Value:=.iface (if s.isL = true then 31 else 40) s.recv
def Sto.pick (s : Sto) (a b : Nat) : Nat:=if s.isL = true then a else b
def Sto.set : Sto -> Nat -> Prop
 | .loom _ _ _ p S => p.set S.sl
 | .flat P => P.set
def Sto.Rep : Sto -> World -> List Ob -> Prop
 | .loom N NW NS p S, w, V => LmMem w p N NW NS S /\ Inv NS S V [] (fun _ => False) (fun _ => False) /\ S.busy = 0
 | .flat P, w, V => FlatAt w P V
structure Turn (s : Sto) (w : World) (s' : Sto) (w' : World) : Prop where
 kin : s'.isL = s.isL
 blk : s'.blk = s.blk
 sub : ∀ k, s'.set k -> s.set k \/ w.heap.size <= k
 only : Only s.set w w'
theorem Turn.trans {s s' s'' : Sto} {w w' w'' : World} (h : Turn s w s' w') (k : Turn s' w' s'' w'') : Turn s w s'' w'':=by
 refine ⟨k.kin.trans h.kin, k.blk.trans h.blk, fun g hg => ?_, h.only.then_ k.only h.sub⟩;rcases k.sub g hg with h1 | h1
 ·exact h.sub g h1
 ·exact .inr (Nat.le_trans h.only.size h1)
theorem Turn.of_below {s : Sto} {w w' : World} (hb : Below w.heap.size w w') : Turn s w s w':=⟨rfl, rfl, fun _ h => .inl h, only_of hb _⟩
theorem Step.turn {N NW NS : Nat} {p p' : LmP} {S S' : St} {w w' : World} (h : Step p S w p' S' w') : Turn (.loom N NW NS p S) w (.loom N NW NS p' S') w':=⟨rfl, h.m, h.sub, h.only⟩
section
variable {s : Sto} {w w' : World} {V : List Ob}
theorem Sto.lt (h : s.Rep w V) : ∀ k, s.set k -> k < w.heap.size:=by
 cases s with
 | loom N NW NS p S => exact h.1.lt
 | flat P => exact h.lt
theorem Sto.only {T : Nat -> Prop} (h : s.Rep w V) (ho : Only T w w') (hT : ∀ k, s.set k -> ¬ T k) : s.Rep w' V:=by
 cases s with
 | loom N NW NS p S => exact ⟨h.1.only ho hT, h.2⟩
 | flat P => exact FlatAt.only h ho hT
theorem Sto.below (h : s.Rep w V) (hb : Below w.heap.size w w') : s.Rep w' V:=Sto.only h (only_of hb (fun _ => False)) (fun _ _ h => h)
theorem Sto.small (h : s.Rep w V) : V.length <= 2000:=by
 cases s with
 | loom N NW NS p S => rw [h.2.1.lenV]; exact h.1.disk.small
 | flat P => exact FlatAt.small h
theorem Sto.good (h : s.Rep w V) : ∀ v ∈ V, checkM v = true:=by
 cases s with
 | loom N NW NS p S => exact h.2.1.good
 | flat P => intro v hv;obtain ⟨i, hi⟩:=List.getElem?_of_mem hv;obtain ⟨o, ho⟩:=FlatAt.get h hi;exact (FlatAt.objs h i o v ho hi).ok
theorem Sto.made (h : s.Rep w V) : Calls Tryz.prog (s.pick 159 231) #[s.recv] w fun e w' => e = .returned (.int .i64 V.length) /\ w = w':=by
 cases s with
 | loom N NW NS p S => have:=made_any p N NW NS S w h.1;rw [<- h.2.1.lenV] at this;exact this
 | flat P => exact fmade_any P V w h
def MoreR (s : Sto) (V : List Ob) (o : Ob) (w : World) (e : Ending) (w' : World) : Prop :=
 (s.isL = true /\ e = .returned (.tuple #[.int .i64 0, .int .i64 3]) /\ ∃ s', s'.Rep w' V /\ Turn s w s' w') \/
 (e = .returned (.tuple #[.int .i64 (2 * ((V.length : Int) + 1)), .int .i64 0]) /\ ∃ s', s'.Rep w' (V ++ [o]) /\ Turn s w s' w')
theorem Sto.new (h : s.Rep w V) (c k : Int) (n : Nat) (hc : (namM c).2 = true) (hcc : -9223372036854775808 <= c /\ c <= 9223372036854775807) (hk : k = 1 \/ k = 2) (hn : n <= 1000) (hsm : V.length < 2000) :
  Calls Tryz.prog (s.pick 160 232) #[s.recv, .int .i64 c, .int .i64 k, .int .i64 n] w (MoreR s V (blankM c k n) w):=by
 cases s with
 | loom N NW NS p S =>
  have hl:=h.2.1.lenV;refine (new_any p N NW NS S V c k n w h.1 h.2.1 hc hcc hk hn (by omega)).mono ?_;rintro e w' (⟨he, hM, st⟩ | ⟨he, hM, hI, st⟩)
  ·exact .inl ⟨rfl, he, .loom N NW NS p S, ⟨hM, h.2⟩, st.turn⟩
  ·rw [<- hl] at he;exact .inr ⟨he, .loom N NW NS p _, ⟨hM, hI, h.2.2⟩, st.turn⟩
 | flat P => refine (fnew_any P V c k n w h hc hcc hk hn hsm).mono ?_;rintro e w' ⟨he, l, hF, hs, hO⟩;exact .inr ⟨he, .flat { P with l:=l }, hF, ⟨rfl, rfl, hs, hO⟩⟩
def TurnR (s : Sto) (V V' : List Ob) (w : World) (e : Ending) (w' : World) : Prop :=
 (s.isL = true /\ e = .returned (.int .i64 3) /\ ∃ s', s'.Rep w' V /\ Turn s w s' w') \/
 (e = .returned (.int .i64 0) /\ ∃ s', s'.Rep w' V' /\ Turn s w s' w')
theorem Sto.put (h : s.Rep w V) {i j : Nat} {v : Ob} {u : Int} (hv : V[i]? = some v) (hk : v.kind = 1) (hj : j < v.ws.length) (hu : refM u = true) :
  Calls Tryz.prog (s.pick 163 235) #[s.recv, .int .i64 (2 * ((i : Int) + 1)), .int .i64 j, .int .i64 u] w (TurnR s V (V.set i (setW v j u)) w):=by
 have hsm:=Sto.small h;have hil:=(List.getElem?_eq_some_iff.1 hv).1;cases s with
 | loom N NW NS p S =>
  refine (set_any p N NW NS i j S V v u w h.1 h.2.1 h.2.2 hv (by omega) hk hj hu).mono ?_;rintro e w' (⟨he, H, S', st, hM, hI, hb⟩ | ⟨he, H, S', st, hM, hI, hb⟩)
  ·exact .inl ⟨rfl, he, .loom N NW NS _ S', ⟨hM, hI, hb⟩, st.turn⟩
  ·exact .inr ⟨he, .loom N NW NS _ S', ⟨hM, hI, hb⟩, st.turn⟩
 | flat P => refine (fset_any P V i j v u w h hv hk hj hu).mono ?_;rintro e w' ⟨he, hF, hO⟩;exact .inr ⟨he, .flat P, hF, ⟨rfl, rfl, fun _ h => .inl h, hO⟩⟩
theorem Sto.putB (h : s.Rep w V) {i j : Nat} {v : Ob} {u : Int} (hv : V[i]? = some v) (hk : v.kind = 2) (hj : j < v.bs.length) (hu : 0 <= u /\ u <= 255) :
  Calls Tryz.prog (s.pick 164 236) #[s.recv, .int .i64 (2 * ((i : Int) + 1)), .int .i64 j, .int .i64 u] w (TurnR s V (V.set i (setB v j u)) w):=by
 have hsm:=Sto.small h;have hil:=(List.getElem?_eq_some_iff.1 hv).1;cases s with
 | loom N NW NS p S =>
  refine (setbyte_any p N NW NS i j S V v u w h.1 h.2.1 h.2.2 hv (by omega) hk hj hu).mono ?_;rintro e w' (⟨he, H, S', st, hM, hI, hb⟩ | ⟨he, H, S', st, hM, hI, hb⟩)
  ·exact .inl ⟨rfl, he, .loom N NW NS _ S', ⟨hM, hI, hb⟩, st.turn⟩
  ·exact .inr ⟨he, .loom N NW NS _ S', ⟨hM, hI, hb⟩, st.turn⟩
 | flat P => refine (fsetbyte_any P V i j v u w h hv hk hj hu).mono ?_;rintro e w' ⟨he, hF, hO⟩;exact .inr ⟨he, .flat P, hF, ⟨rfl, rfl, fun _ h => .inl h, hO⟩⟩
def ObjR (s : Sto) (V : List Ob) (v : Ob) (w : World) (e : Ending) (w' : World) : Prop:=∃ y s', e = .returned (.tuple #[y, .int .i64 0]) /\ FreshO v w y w' /\ s'.Rep w' V /\ Turn s w s' w' /\ ∀ k, s'.set k -> s.set k
theorem Sto.obj (h : s.Rep w V) {i : Nat} {v : Ob} (hv : V[i]? = some v) :
  Calls Tryz.prog (s.pick 162 234) #[s.recv, .int .i64 (2 * ((i : Int) + 1))] w (ObjR s V v w):=by
 have hsm:=Sto.small h;have hil:=(List.getElem?_eq_some_iff.1 hv).1;cases s with
 | loom N NW NS p S => refine (objget_any p N NW NS i S V v w h.1 h.2.1 hv (by omega)).mono ?_;rintro e w' ⟨y, S', he, hF, st, hM, hI, hb, hsub⟩;exact ⟨y, .loom N NW NS p S', he, hF, ⟨hM, hI, hb.trans h.2.2⟩, st.turn, hsub⟩
 | flat P => refine (fobj_yes P V i v w h hv).mono ?_;rintro e w' ⟨y, he, hF, hb⟩;exact ⟨y, .flat P, he, hF, FlatAt.below h hb, Turn.of_below hb, fun _ h => h⟩
end
end Go.Proofs.YtgaemfghpibeeaaGreatDoor
