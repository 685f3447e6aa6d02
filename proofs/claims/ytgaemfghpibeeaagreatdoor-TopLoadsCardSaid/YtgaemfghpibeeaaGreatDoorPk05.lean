/-
  Sectors are opened and closed as their plain law says; insertion, rotation and merging in place. Conditions: each theorem names its own.
-/
import Derived.Test.YtgaemfghpibeeaaGreatDoorPk04
import Derived.BigCall
import Derived.BigGuard
import Derived.CellFam
set_option maxRecDepth 100000
set_option maxHeartbeats 6000000
open Go.Lib (hid)
open List (getElem?_eq_getElem mem_of_getElem? getElem?_append_left getElem?_append_right getD_eq_getElem?_getD eq_nil_of_length_eq_zero getElem?_eq_none_iff length_replicate take_of_length_le length_set length_append)
namespace Go.Proofs.YtgaemfghpibeeaaGreatDoor
open Go.RowKit Go.Maps
attribute [local go_sem ↓] Go.wp_at_zero Go.wp_at_succ
theorem OwnsB.only {S : Nat -> Prop} {w w' : World} {B : Nat} {v : Value} {l : List Int} (h : OwnsB w B v l) (ho : Only S w w') (hs : ∀ g, S g -> g < B) : OwnsB w' B v l :=
 ⟨h.1, h.2.imp id (fun ⟨g, cap, cur, h1, h2, h3, h4⟩ => ⟨g, cap, cur, h1, h2, (ho.block g (Array.getElem?_eq_some_iff.1 h3).1 (fun e => by have:=hs g e; omega)).trans h3, h4⟩)⟩
theorem OwnsI.only {S : Nat -> Prop} {w w' : World} {B : Nat} {v : Value} {l : List Int} (h : OwnsI w B v l) (ho : Only S w w') (hs : ∀ g, S g -> g < B) : OwnsI w' B v l :=
 ⟨h.1, h.2.imp id (fun ⟨g, cap, cur, h1, h2, h3, h4⟩ => ⟨g, cap, cur, h1, h2, (ho.block g (Array.getElem?_eq_some_iff.1 h3).1 (fun e => by have:=hs g e; omega)).trans h3, h4⟩)⟩
theorem only_of_row {w w' : World} {row : Option Nat} (h : w.grownBy w' row) : Only (fun g => some g = row) w w':=⟨h.os, h.tape, h.output, h.size, fun i hi hs => h.block i hi hs⟩
theorem Byts.front {w : World} {A : Option Addr} {r z : List Int} (h : Byts w A (r ++ z)) : Byts w A r:=by intro j v hv;exact h j v (by rw [getElem?_append_left (List.getElem?_eq_some_iff.1 hv).1]; exact hv)
theorem extGet_any (P : SpP) (N : Nat) (rows : List (List Int)) (i : Nat) (r : List Int) (w : World) (h : SpaceAt w P N rows) (hi : rows[i]? = some r) :
  Calls Tryz.prog 64 #[.pointer (some ⟨P.s, 0, none⟩), extV (fromR rows i) (secs r.length) r.length] w fun e w' => ∃ A, e = .returned (.tuple #[.slice A r.length r.length, .int .i64 0]) /\ Byts w' A r /\ SpaceAt w' P N rows /\ Only (fun g => g = P.d) w w':=by
 have hb:=(Below.refl w.heap.size w).alloc (Nat.le_refl _) (.cells #[.int .i64 (fromR rows i : Nat), .int .i64 (secs r.length : Nat), .int .i64 (r.length : Nat)] 143);have hO:=only_of hb (fun _ => False);have hlv:=lives_any P N rows i r _ (h.only hO (fun _ _ h => h)) hi;have b0:=Blk.new w 143 #[.int .i64 (fromR rows i : Nat), .int .i64 (secs r.length : Nat), .int .i64 (r.length : Nat)];have hS0:=h.only hO (fun _ _ h => h);have hbd:=fromR_bd h hi;have hrow:=fun j hj => diskR_row (N:=N) hi j hj;have hlt:=h.lt;have hdl:=diskR_length N rows h.bits.le;have hv : ∀ v ∈ padS r, 0 <= v /\ v <= 255:=by intro v hv;have:=hrow (secs r.length) (Nat.le_refl _);rw [take_of_length_le (l:=padS r) (by rw [padS_length]; exact Nat.le_refl _)] at this;rw [<- this] at hv;exact h.disk.vals v (List.mem_of_mem_drop (List.mem_of_mem_take hv))
 have hpl:=padS_length r;obtain ⟨n1, n2, n3, n4⟩:=SpP.ne h.apart;have hnd : ∀ k, P.set k -> k ≠ P.d -> True:=fun _ _ _ => trivial;have hpd : P.d < w.heap.size:=hlt _ (.inr (.inl rfl));have hps : P.s < w.heap.size:=hlt _ (.inl rfl);unfold extV at hlv ⊢;obtain ⟨f, hf⟩ : ∃ f, f = fromR rows i:=⟨_, rfl⟩;obtain ⟨n, hn⟩ : ∃ f, f = secs r.length:=⟨_, rfl⟩;obtain ⟨p, hp⟩ : ∃ f, f = r.length:=⟨_, rfl⟩;rw [<- hf, <- hn, <- hp] at hb hO hlv b0 hS0;rw [<- hf, <- hn, <- hp] at hbd;rw [<- hf, <- hn] at hrow;rw [<- hf, <- hn, <- hp];rw [<- hn] at hpl;have hn2 : p <= 64 * n:=by rw [hn, hp]; unfold secs; omega
 have HLV:=hid hlv;have HROW:=hid hrow;have HN:=hid hn;have HP:=hid hp;have HV:=hid hv;have HPL:=hid hpl;have HDL:=hid hdl;have HLT:=hid hlt;clear hlv hrow hn hp hf hv hpl hdl hlt h hi hnd;go_enter Tryz.func64, Tryz.ntmps64;go_wp2_with fail;refine HLV.out.mono ?_;rintro e w1 ⟨rfl, hb1⟩;have hO1:=only_of hb1 (fun _ => False);have b1:=b0.only hO1 (fun h => h);have hS1:=hS0.only hO1 (fun _ _ h => h);have hOw : Only (fun g => g = P.d) w w1:=(hO.trans hO1).mono (fun _ h => h.elim);have x1:=b1.cell 1;simp only [qTa, qTb, qTc] at x1;have hz1:=b1.lt;clear hb hO b0 hS0 hO1 hb1 HLV;go_wp2_with fail;go_loopg [7, 8, 9, 10, 19] n (fun k s7 s8 s9 s10 s19 wr => ∃ j : Nat, j + k = n /\ s19 = .int .i64 j /\ OwnsB wr (w.heap.size + 1) s7 ((padS r).take (64 * j)) /\ SpaceAt wr P N rows /\ Blk wr w.heap.size 143 #[.int .i64 f, .int .i64 n, .int .i64 p] /\ Only (fun g => g = P.d) w wr)
 case atStart => exact ⟨0, by omega, rfl, World.ownsRow_nil _ _ _ _, hS1, b1, hOw⟩
 case round =>
  clear b1 hS1 hOw x1 hz1;obtain ⟨j, hj, rfl, hown, hS, bx, hOw⟩:=hrel;have hzx:=bx.lt;have x0:=bx.cell 0;have x2:=bx.cell 2;simp only [qTa, qTb, qTc] at x0 x2;cases gk with
  | succ k =>
   have hjn : (j : Int) < n:=by omega
   have s0:=hS.head.cell 0;simp only [qTa, qTb] at s0;have hrd:=diskRead_any P.d P.b (diskR N rows) (f + j) wr.drew hS.disk.drew (by rw [HDL.out]; omega);have e64 : ((diskR N rows).drop (64 * (f + j))).take 64 = ((padS r).drop (64 * j)).take 64:=by have e1:=HROW.out (j + 1) (by omega);have e2:=congrArg (fun l => (l.drop (64 * j)).take 64) e1;simp only [List.drop_take, List.drop_drop, List.take_take] at e2;rw [show 64 * f + 64 * j = 64 * (f + j) by omega, show min 64 (64 * (j + 1) - 64 * j) = 64 by omega] at e2;exact e2
   have e65 : (padS r).take (64 * (j + 1)) = (padS r).take (64 * j) ++ ((padS r).drop (64 * j)).take 64:=by rw [show 64 * (j + 1) = 64 * j + 64 by omega, List.take_add]
   have l64 : (((padS r).drop (64 * j)).take 64).length = 64:=by rw [List.length_take, List.length_drop, HPL.out]; omega
   have v64 : ∀ v ∈ ((padS r).drop (64 * j)).take 64, 0 <= v /\ v <= 255:=fun v hv => HV.out v (List.mem_of_mem_drop (List.mem_of_mem_take hv));have lpre : ((padS r).take (64 * j)).length <= 64 * j:=List.length_take_le _ _;rw [e64, Int.natCast_add] at hrd;have HRD:=hid hrd;have HE:=hid e65;have HL:=hid l64;have HV64:=hid v64;have hsd : P.s ≠ P.d:=n1.1;have hwd : w.heap.size ≠ P.d:=by omega
   have u2 : IntKind.i64.wrap ((f : Int) + j) = (f : Int) + j:=wrap_id (by omega);have hszr:=hOw.size;clear hrd e64 e65 l64 v64;go_upto_region 8 with (fail);go_region_held3 (fun w' => w'.cell? ⟨P.s, 0, none⟩ = some (.pointer (some ⟨P.d, 0, none⟩)) /\ w'.cell? ⟨w.heap.size, 0, none⟩ = some (.int .i64 f))
    (first | go_keep | exact ⟨(hO5.cell (by simp; omega) hsd).trans (show _ /\ _ by assumption).1, (hO5.cell (by simpa using hzx) hwd).trans (show _ /\ _ by assumption).2⟩)
    (first | (go_at_call 95; refine HRD.out.mono ?_; rintro e w5 ⟨v5, rfl, hown5, hD5, hO5⟩))
   obtain ⟨A5, c5, e5, l5, m5, y5, na5⟩:=hown5.reads2 HV64.out;rw [HL.out] at e5 l5;subst e5;have hO6 : Only (fun g => g = P.d) wr w5:=(only_drew _ _).trans hO5;have hown6:=hown.only hO6 (fun g e => by omega);have bx6:=bx.only hO6 hwd;have hOw6:=hOw.trans hO6;have hS6 : SpaceAt w5 P N rows:=by obtain ⟨D, hM, q1, q2⟩:=hS.live;exact ⟨hS.head.only hO6 hsd, hD5, hS.bits.only hO6 (Ne.symm n2.2.1) (Ne.symm n2.2.2.1), ⟨D, hM.keep hO6 (Ne.symm n2.2.2.2), q1, q2⟩, hS.apart, hS.rowsOk⟩
   have hszr5:=bx6.lt;have HY5:=hid y5;clear hown5 hD5 hO5 hO6 hown bx hOw hS u2 y5 x0 x2 s0;go_wp2_with (at_builtin; (refine append_bytes rfl _ _ rfl (w.heap.size + 1) _ ((padS r).take (64 * j)) (by rfl) hown6 A5 _ 64 c5 HL.out.symm (by rfl) HY5.out na5 (by omega) (by omega) ?_); intro v7 w7 hown7 hg7)
   have hO7:=only_of_row hg7;have hlow:=fun k hk => (hown6.lt k hk).1;have hS7:=hS6.only hO7 (fun k hk e => by have:=hlow k e.symm; have:=HLT.out k hk; omega);have bx7:=bx6.only hO7 (fun e => by have:=hlow _ e.symm; omega);have hOw7 : Only (fun g => g = P.d) w w7:=Only.shrink ((hOw6.mono (T:=fun g => g = P.d \/ w.heap.size + 1 <= g) (fun g h => .inl h)).trans (hO7.mono (fun g e => .inr (hlow g e.symm)))) (fun g h => h.imp id (fun h => by omega));have hown8 : OwnsB w7 (w.heap.size + 1) v7 ((padS r).take (64 * (j + 1))):=by rw [HE.out]; exact hown7
   clear hown6 hown7 hg7 hO7 hlow hS6 bx6 hOw6;go_wp2_with fail;go_roundg k
   case measure => omega
   case rel => exact ⟨j + 1, by omega, by go_num, hown8, hS7, bx7, hOw7⟩
  | zero =>
   obtain rfl : n = j:=by omega
   have hjn : ¬ ((n : Int) < n):=by omega
   have e : (padS r).take (64 * n) = padS r:=take_of_length_le (by rw [HPL.out]; exact Nat.le_refl _);rw [e] at hown;obtain ⟨A5, c5, e5, l5, m5, y5, na5⟩:=hown.reads2 HV.out;rw [HPL.out] at e5 l5;subst e5;have hpc : (p : Int) <= c5:=by omega
   have hp0 : (0 : Int) <= p:=by omega
   have hpp : (p : Int) <= p:=by omega
   have hy6:=Byts.front (r:=r) (z:=List.replicate (64 * secs r.length - r.length) 0) y5;have HY:=hid hy6;clear hown y5 e hy6;go_wp2_with fail;go_ret2;refine ⟨A5, rfl, ?_, hS, hOw⟩;exact HY.out
end Go.Proofs.YtgaemfghpibeeaaGreatDoor
namespace Go.Proofs.YtgaemfghpibeeaaGreatDoor
open Go.RowKit Go.Maps
attribute [local go_sem ↓] Go.wp_at_zero Go.wp_at_succ
theorem fromR_mono {rows : List (List Int)} {i k : Nat} {r : List Int} (hi : rows[i]? = some r) (hk : i < k) : fromR rows i < fromR rows k:=by
 have h1 : (rows.take k)[i]? = some r:=by rw [List.getElem?_take, if_pos hk, hi]
 have h2:=fromR_fit h1;have h3:=secs_pos r.length;have h4 : fromR (rows.take k) i = fromR rows i:=by unfold fromR; rw [List.take_take, Nat.min_eq_left (by omega)]
 unfold fromR at *;omega
theorem fromR_ne {rows : List (List Int)} {i k : Nat} {r r' : List Int} (hi : rows[i]? = some r) (hk : rows[k]? = some r') (hne : i ≠ k) : fromR rows i ≠ fromR rows k:=by
 have l1:=(List.getElem?_eq_some_iff.1 hi).1;have l2:=(List.getElem?_eq_some_iff.1 hk).1;rcases Nat.lt_or_ge i k with h | h
 ·have:=fromR_mono hi h; omega
 ·have:=fromR_mono hk (show k < i by omega); omega
theorem SpaceAt.turn {w w' : World} {P : SpP} {N : Nat} {rows : List (List Int)} {i : Nat} {r bs : List Int} (h : SpaceAt w P N rows) (hi : rows[i]? = some r) (hl : bs.length = r.length)
  (hs : Blk w' P.s 178 #[.pointer (some ⟨P.d, 0, none⟩), .pointer (some ⟨P.m, 0, none⟩), .map (some P.l)]) (hd : DiskAt w' P.d P.b (diskR N (rows.set i bs))) (hb : BitsAt w' P.m P.g N (rowsLen rows)) {D : DataW Value} {kl : Lit}
  (hkl : keyOf Tryz.prog 143 (extV (fromR rows i) (secs r.length) r.length) = some kl) (hM0 : MapAt w 143 P.l D) (hsz : Maps.size D <= rows.length)
  (hat : ∀ i r, rows[i]? = some r -> ∀ kl, keyOf Tryz.prog 143 (extV (fromR rows i) (secs r.length) r.length) = some kl -> D.atKey kl (.held (.bool false)) = .held (.bool true))
  (hM : MapAt w' 143 P.l ((D.del kl).put kl (.held (.bool true)))) : SpaceAt w' P N (rows.set i bs):=by
 obtain ⟨e1, e2⟩:=rowsLen_set hi hl;have hT:=World.ownsMap.tidy hM0 law143;have hhas : Maps.has D kl = true:=by
  cases hh : Maps.has D kl with
  | true => rfl
  | false => have:=hat i r hi kl hkl;rw [atKey_of_not_has hh] at this;cases this
 refine ⟨hs, hd, by rw [e1]; exact hb, ⟨_, hM, ?_, ?_⟩, h.apart, ?_⟩
 ·rw [size_put (hT.del kl), has_del_same, length_set];have:=size_del (k:=kl) hT;rw [hhas] at this;simp at this ⊢;omega
 ·intro k r' hk kl' hkl';rw [e2] at hkl';by_cases e : i = k
  ·subst e;have hi':=(List.getElem?_eq_some_iff.1 hi).1;rw [List.getElem?_set, if_pos rfl, if_pos hi'] at hk;injection hk with hk;subst hk;rw [hl, hkl] at hkl';injection hkl' with hkl';subst hkl';exact atKey_put_same (hT.del kl).isMap (law143.key hkl) _ _
  ·rw [List.getElem?_set, if_neg e] at hk;have hne : kl' ≠ kl:=ext_ne_key hkl' hkl (by have:=fromR_ne hk hi (Ne.symm e); omega);rw [atKey_put_other hne, atKey_del_other hne];exact hat k r' hk kl' hkl'
 ·intro x hx;rcases List.mem_or_eq_of_mem_set hx with h1 | h1
  ·exact h.rowsOk x h1
  ·subst h1; rw [hl]; exact h.rowsOk r (mem_of_getElem? hi)
theorem extSet_any (P : SpP) (N : Nat) (rows : List (List Int)) (i : Nat) (r : List Int) (ab aoff : Nat) (bs : List Int) (cap : Nat) (w : World) (h : SpaceAt w P N rows) (hi : rows[i]? = some r) (hl : bs.length = r.length)
  (hA : Byts w (some ⟨ab, aoff, none⟩) bs) (hab : ¬ P.set ab) (hcap : bs.length <= cap /\ cap <= 9223372036854775807) :
  Calls Tryz.prog 186 #[.pointer (some ⟨P.s, 0, none⟩), extV (fromR rows i) (secs r.length) r.length, .slice (some ⟨ab, aoff, none⟩) bs.length cap] w fun e w' => e = .returned (.tuple #[extV (fromR rows i) (secs r.length) r.length, .int .i64 0]) /\ SpaceAt w' P N (rows.set i bs) /\ Only P.set w w':=by
 have hb:=((Below.refl w.heap.size w).alloc (Nat.le_refl _) (.cells #[.int .i64 (fromR rows i : Nat), .int .i64 (secs r.length : Nat), .int .i64 (r.length : Nat)] 143)).alloc (by simp) (.cells #[.int .i64 0, .int .i64 0, .int .i64 0] 143);have hO:=only_of hb (fun _ => False);have hS0:=h.only hO (fun _ _ h => h);have hlv:=lives_any P N rows i r _ hS0 hi;have b0:=(Blk.new w 143 #[.int .i64 (fromR rows i : Nat), .int .i64 (secs r.length : Nat), .int .i64 (r.length : Nat)]).alloc (.cells #[.int .i64 0, .int .i64 0, .int .i64 0] 143);have b1:=Blk.new2 w (.cells #[.int .i64 (fromR rows i : Nat), .int .i64 (secs r.length : Nat), .int .i64 (r.length : Nat)] 143) 143 #[.int .i64 0, .int .i64 0, .int .i64 0];have hbd:=fromR_bd h hi;have hlt:=h.lt;have hdl:=diskR_length N rows h.bits.le;obtain ⟨⟨n1, n2, n3, n4, n5⟩, ⟨n6, n7, n8, n9⟩, ⟨n10, n11, n12⟩, ⟨n13, n14⟩, n15⟩:=SpP.ne h.apart;obtain ⟨kl, hkl⟩:=h.key hi;have hsx:=fun W => sectors_any bs.length (by omega) W;have hrl : rows.length <= N:=by have:=rowsLen_ge rows; have:=h.bits.le; omega
 rw [hl] at hsx hcap ⊢;have hdel:=fun (W : World) (D : DataW Value) (hM : MapAt W 143 P.l D) => hM.drop law143 Tryz.underlying176 hkl 0;have hlay:=fun (W : World) (D : DataW Value) (hs : Blk W P.s 178 _) (hD : DiskAt W P.d P.b (diskR N rows)) (hM : MapAt W 143 P.l D) (hsz : Maps.size D < 1000000) (hA : Byts W (some ⟨ab, aoff, none⟩) bs) =>
  lay_any P.s P.d P.b P.l ab aoff cap (fromR rows i) (.pointer (some ⟨P.m, 0, none⟩)) (diskR N rows) bs D W (r.length : Nat) hs hD hM hsz n1 n2 (Ne.symm n9) (Ne.symm n12) hA
   ⟨fun e => hab (by rw [e]; exact .inr (.inl rfl)), fun e => hab (by rw [e]; exact .inr (.inr (.inl rfl))), fun e => hab (by rw [e]; exact .inr (.inr (.inr (.inr (.inr rfl)))))⟩ (by omega) (by rw [hl]; exact hcap) (by omega)
   (by rw [hdl, hl]; omega) kl (by rw [hl]; exact hkl)
 rw [laidP_set hi hl] at hlay;rw [hl] at hlay;have hturn:=fun (W w' : World) (D : DataW Value) (h : SpaceAt W P N rows) a1 a2 a3 => SpaceAt.turn (w:=W) (w':=w') (D:=D) h hi hl a1 a2 a3 hkl;have hA0:=Byts.only hA hO (fun _ _ _ h => h);unfold extV at hlv hdel hlay ⊢;obtain ⟨f, hf⟩ : ∃ f, f = fromR rows i:=⟨_, rfl⟩;obtain ⟨n, hn⟩ : ∃ f, f = secs r.length:=⟨_, rfl⟩;obtain ⟨p, hp⟩ : ∃ f, f = r.length:=⟨_, rfl⟩;rw [<- hf, <- hn, <- hp] at hb hO hlv b0 b1 hS0 hlay hbd hA0 ⊢;rw [<- hf, <- hn, <- hp] at hdel;rw [<- hn, <- hp] at hsx;have HLV:=hid hlv;have HSX:=hid hsx;have HDEL:=hid hdel;have HLAY:=hid hlay;have HTURN:=hid hturn;have HLT:=hid hlt;have HKL:=hid hkl;have HA0:=hid hA0;clear hlv hsx hdel hlay hturn hlt hkl hA0 hf hn hp hi hl hA h;go_enter Tryz.func186, Tryz.ntmps186;go_wp2_with fail;refine HLV.out.mono ?_;rintro e w1 ⟨rfl, hb1⟩;have hO1:=only_of hb1 (fun _ => False);have b01:=b0.only hO1 (fun h => h);have b11:=b1.only hO1 (fun h => h);have hS1:=hS0.only hO1 (fun _ _ h => h);have hOw:=hO.trans hO1;have HA1:=hid (Byts.only HA0.out hO1 (fun _ _ _ h => h));have x0:=b01.cell 0;have x1:=b01.cell 1;have x2:=b01.cell 2;simp only [qTa, qTb, qTc] at x0 x1 x2;clear hb hO b0 b1 hS0 hO1 hb1 HLV HA0;go_wp2_with fail;go_region_held3 (fun w' => w'.cell? ⟨w.heap.size, 1, none⟩ = some (.int .i64 n)) (go_keep)
  (first | (go_at_call 189; refine (HSX.out _).mono ?_; rintro e w' ⟨rfl, rfl⟩))
 go_wp2_with fail;have hS2 : SpaceAt w1.drew P N rows:=hS1.only (only_drew (fun _ => False) w1) (fun _ _ h => h);have b02:=b01.only (only_drew (fun _ => False) w1) (fun h => h);have b12:=b11.only (only_drew (fun _ => False) w1) (fun h => h);have hOw2:=hOw.trans (only_drew (fun _ => False) w1);have HA2:=hid (Byts.only HA1.out (only_drew (fun _ => False) w1) (fun _ _ _ h => h));clear hS1 b01 b11 hOw HA1 x0 x1 x2;generalize w1.drew = W2 at hS2 b02 b12 hOw2 HA2 ⊢;have x0:=b02.cell 0;have x1:=b02.cell 1;have x2:=b02.cell 2;have s2:=hS2.head.cell 2;simp only [qTa, qTb, qTc] at x0 x1 x2 s2;have hS3 : SpaceAt W2.drew P N rows:=hS2.only (only_drew (fun _ => False) W2) (fun _ _ h => h);obtain ⟨D, hM, hsz, hat⟩:=hS3.live;obtain ⟨w3, hrun, hM3, hO3⟩:=HDEL.out W2.drew D hM;have HAT:=hid hat;have HM:=hid hM;have HM3:=hid hM3;clear hat hM hM3;go_region
 have hx3 : Only (fun g => g = P.l) W2 w3:=(only_drew _ _).trans hO3;have hb2:=hS2.head.lt;have hwl : w.heap.size ≠ P.l:=by have:=HLT.out P.l (.inr (.inr (.inr (.inr (.inr rfl))))); omega
 have hwl1 : w.heap.size + 1 ≠ P.l:=by have:=HLT.out P.l (.inr (.inr (.inr (.inr (.inr rfl))))); omega
 have b03:=b02.only hx3 hwl;have b13:=b12.only hx3 hwl1;have hs3:=hS2.head.only hx3 n5;have hd3:=hS2.disk.only hx3 n9 n12;have hbt3:=hS2.bits.only hx3 n14 n15;have hA3:=Byts.only HA2.out hx3 (fun b off e1 e => hab (by injection e1 with e1; injection e1 with e1; rw [e1, e]; exact .inr (.inr (.inr (.inr (.inr rfl))))));have hsz3 : Maps.size (D.del kl) < 1000000:=by have:=size_del (k:=kl) (World.ownsMap.tidy HM.out law143);omega
 have hl:=hid (HLAY.out w3 (D.del kl) hs3 hd3 HM3.out hsz3 hA3);have hOw3:=(hOw2.mono (T:=P.set) (fun _ h => h.elim)).trans (hx3.mono (T:=P.set) (fun g e => .inr (.inr (.inr (.inr (.inr e))))));have x0:=b03.cell 0;have x1:=b03.cell 1;have x2:=b03.cell 2;simp only [qTa, qTb, qTc] at x0 x1 x2;clear b02 b12 hd3 hA3 hsz3 hOw2 hx3 hO3 hrun s2;go_wp2_with fail;refine hl.out.mono ?_;rintro e w4 ⟨rfl, hD4, hM4, hO4⟩;have hS4:=HTURN.out W2.drew w4 D hS3 (hs3.only hO4 (by rintro (e | e | e); exact n1 e; exact n2 e; exact n5 e)) hD4 (hbt3.only hO4 (by rintro (e | e | e); exact n7 e.symm; exact n10 e.symm; exact n14 e) (by rintro (e | e | e); exact n8 e.symm; exact n11 e.symm; exact n15 e)) HM.out hsz HAT.out hM4;have hnx : ¬ P.set (w.heap.size + 1):=fun e => by have:=HLT.out _ e; omega
 have b14:=b13.only hO4 (by rintro (e | e | e); exact hnx (.inr (.inl e)); exact hnx (.inr (.inr (.inl e))); exact hnx (.inr (.inr (.inr (.inr (.inr e))))));have hOw4:=hOw3.trans (hO4.mono (T:=P.set) (by rintro g (e | e | e); exact .inr (.inl e); exact .inr (.inr (.inl e)); exact .inr (.inr (.inr (.inr (.inr e))))));have c0:=b14.cell 0;have c1:=b14.cell 1;have c2:=b14.cell 2;simp only [qTa, qTb, qTc] at c0 c1 c2;have f4:=b14.frozen;clear hD4 hM4 b03 b13 hOw3 x0 x1 x2 hs3 hbt3 hS3;go_wp2_with fail;have hO5:=only_three w4 (w.heap.size + 1) (.int .i64 f) (.int .i64 n) (.int .i64 p);refine bodyPost_ret (res_cell_tmp rfl _ _ (w.heap.size + 1) 143 _ (0, 0) _ rfl (b14.set111 _ _ _) Tryz.underlying143 rfl size143) rfl ⟨rfl, hS4.only hO5 (fun k hk e => hnx (by rw [<- e]; exact hk)), ?_⟩;exact Only.shrink ((hOw4.mono (fun g h => Or.inl h)).trans (hO5.mono (T:=fun g => P.set g \/ g = w.heap.size + 1) (fun g h => Or.inr h))) (fun g h => h.imp id (fun h => by omega))
end Go.Proofs.YtgaemfghpibeeaaGreatDoor
namespace Go.Proofs.YtgaemfghpibeeaaGreatDoor
open Go.RowKit
theorem decode_bytes (o : Ob) (hc : checkM o = true) (hk : o.kind = 2) (A : Option Addr) (cap : Nat) (w : World) (hA : Byts w A (encM o)) (hcap : (encM o).length <= cap /\ cap <= 9223372036854775807) :
  Calls Tryz.prog 65 #[.slice A (encM o).length cap] w (RetO o w):=by
 obtain ⟨g0, g1, g2⟩:=get_enc o (checkM_bd hc);obtain ⟨_, h2⟩:=checkM_parts hc;obtain ⟨hbs, hws⟩ : o.ws = [] /\ o.bs.length <= 1000:=by
  rcases h2 with ⟨a, _⟩ | ⟨_, b, c⟩
  ·omega
  ·exact ⟨b, c⟩
 have hlen:=encM_length o;have hck:=checkM_bd hc o.cls (by simp);rw [hbs] at hlen;simp only [List.length_nil, Nat.mul_zero, Nat.add_zero] at hlen;have hdrop : (encM o).drop 12 = o.bs:=by unfold encM;rw [hbs, List.drop_left' (by rw [allW_length]; rfl)];rfl
 have hbv : ∀ v ∈ o.bs, 0 <= v /\ v <= 255:=by intro v hv;refine hA.vals v ?_;unfold encM;exact List.mem_append_right _ (List.mem_append_right _ hv)
 have hbyt : ∃ b off, A = some ⟨b, off, none⟩ /\ Byts w (some ⟨b, off + 12, none⟩) o.bs:=by
  obtain ⟨_, _, b, off, hA0, _⟩:=hA 0 _ (getElem?_eq_getElem (by rw [encM_length]; omega));refine ⟨b, off, hA0, ?_⟩;intro j v hj;rw [<- hdrop, List.getElem?_drop] at hj;obtain ⟨k1, k2, b', off', hA1, hlt, hc⟩:=hA _ v hj;rw [hA0] at hA1;obtain ⟨rfl, rfl⟩ : b' = b /\ off' = off:=by simpa using hA1.symm
  exact ⟨k1, k2, b', off' + 12, rfl, hlt, by rw [Nat.add_assoc]; exact hc⟩
 obtain ⟨n, hn⟩ : ∃ n, n = o.bs.length:=⟨_, rfl⟩;obtain ⟨E, hE⟩ : ∃ E, E = encM o:=⟨_, rfl⟩;rw [<- hE] at g0 g1 g2 hA hcap hlen ⊢;rw [<- hn] at hlen hws;have b0 : Blk (w.alloc (.cells zeroO 29)) w.heap.size 29 zeroO:=Blk.new w 29 zeroO;have b1 : Blk ((w.alloc (.cells zeroO 29)).alloc (.cells #[.int .i64 o.cls, .int .i64 2, .slice none 0 0, .slice none 0 0] 29)) (w.heap.size + 1) 29 #[.int .i64 o.cls, .int .i64 2, .slice none 0 0, .slice none 0 0]:=Blk.new2 w _ 29 _;have b01:=b0.alloc (.cells #[.int .i64 o.cls, .int .i64 2, .slice none 0 0, .slice none 0 0] 29);have hb:=((Below.refl w.heap.size w).alloc (Nat.le_refl _) (.cells zeroO 29)).alloc (by simp) (.cells #[.int .i64 o.cls, .int .i64 2, .slice none 0 0, .slice none 0 0] 29);unfold zeroO at *;have hget:=fun (W : World) (i : Int) (hb : Below w.heap.size w W) => get_any W A E cap i hcap.2 hcap.1 (hA.below hb);obtain ⟨p, hp⟩ : ∃ p, p = E.length:=⟨_, rfl⟩;rw [<- hp] at hlen hcap hget ⊢;have hp1 : 12 + n <= p:=by omega
 have hp2 : p <= 12 + n:=by omega
 clear hlen;have hbw:=(Below.refl w.heap.size w).alloc (Nat.le_refl _) (.cells #[.int .i64 0, .int .i64 0, .slice none 0 0, .slice none 0 0] 29);have G0:=hget _ 0 hbw;have G1:=hget _ 4 hbw;rw [g0] at G0;rw [g1, hk] at G1;simp only at G0 G1;have HG0:=hid G0;have HG1:=hid G1;have HN:=hid hn;have HE:=hid hE;have HP:=hid hp;have HA:=hid hA;have HK:=hid hk;obtain ⟨ab, aoff, rfl, hbyt⟩:=hbyt;have HBYT:=hid hbyt;have HBV:=hid hbv;have HDR:=hid hdrop;have HC:=hid hc;have HBS:=hid hbs;clear hbv g0 g1 g2 h2 G0 G1 hget hn hE hp hA hc hbs hk hbyt hdrop;have hcl1 : ∀ W : World, Below w.heap.size w W -> cap = 12 -> Calls Tryz.prog 97 #[.slice (some ⟨ab, aoff, none⟩) 0 0] W (RetB o.bs W):=by intro W hW hc;have h0 : o.bs = []:=eq_nil_of_length_eq_zero (by have:=HN.out; omega);have:=cloneb_any W (some ⟨ab, aoff, none⟩) o.bs 0 (by rw [h0]; exact Byts.nil _ _) (by rw [h0]; simp) (fun h => by cases h);rw [<- HN.out, show n = 0 by omega] at this;exact this
 have hcl2 : ∀ W : World, Below w.heap.size w W -> Calls Tryz.prog 97 #[.slice (some ⟨ab, aoff + 12, none⟩) (p - 12) (cap - 12)] W (RetB o.bs W):=by intro W hW;have:=cloneb_any W (some ⟨ab, aoff + 12, none⟩) o.bs (cap - 12) (HBYT.out.below hW) (by have:=HN.out; omega) (fun h => by cases h);rw [<- HN.out, show n = p - 12 by omega] at this;exact this
 rcases Nat.eq_or_lt_of_le (show 12 <= cap by omega) with h12 | h12
 ·have hcl:=fun W h => hcl1 W h h12.symm;have HCL:=hid hcl;subst h12;clear hcl hcl1 hcl2;go_enter Tryz.func65, Tryz.ntmps65;go_wp2_with fail;refine HG0.out.mono ?_;rintro e w1 ⟨rfl, rfl⟩;go_wp2_with fail;refine HG1.out.mono ?_;rintro e w1 ⟨rfl, rfl⟩;go_wp2_with fail;clear HG0 HG1;go_loopg [9, 10, 11] 0 (fun g s9 s10 s11 wr => ∃ (j : Nat), j + g = 0 /\ s9 = .int .i64 12 /\ wr = (w.alloc (.cells #[.int .i64 0, .int .i64 0, .slice none 0 0, .slice none 0 0] 29)).alloc (.cells #[.int .i64 o.cls, .int .i64 2, .slice none 0 0, .slice none 0 0] 29))
  case atStart => exact ⟨0, rfl, rfl, rfl⟩
  case round =>
   obtain ⟨j, hj, rfl, hwr⟩:=hrel;cases gk with
   | succ g => exact absurd hj (by omega)
   | zero =>
    rw [<- hwr] at b1 b01 hb;have HW:=hid hwr;clear hwr hbw;have hlt1:=b1.lt;have hlt0:=b01.lt;have c3:=b1.cell 3;simp only [qTa, qTb, qTc] at c3;have f1:=b1.frozen;go_wp2_with fail;refine (HCL.out wr hb).mono ?_;rintro e w2 ⟨vB, rfl, oB, bB⟩;obtain ⟨AB, cB, rfl, l1, l2, yB, nB⟩:=oB.reads2 HBV.out;rw [<- HN.out] at l1;have b12:=b1.keep bB;have b02:=b01.keep bB;have hb2:=hb.trans (bB.mono hb.size);have hsz2:=bB.size;have f2:=b12.frozen;have e0:=b12.cell 0;have e1:=b12.cell 1;have e2:=b12.cell 2;have e3:=b12.cell 3;simp only [qTa, qTb, qTc] at e0 e1 e2 e3;have b13:=b12.set_ 3 (.slice AB n cB);simp only [List.setIfInBounds_toArray, List.set_cons_succ, List.set_cons_zero] at b13;have b03:=b02.far (p:=⟨w.heap.size + 1, 3, none⟩) (by simp) (.slice AB n cB);have hb3:=hb2.setCell (p:=⟨w.heap.size + 1, 3, none⟩) (by simp) (.slice AB n cB);have hsetB : Below wr.heap.size wr w2:=bB;have oB3 : OwnsB (w2.setCell ⟨w.heap.size + 1, 3, none⟩ (.slice AB n cB)) (w.heap.size + 2) (.slice AB n cB) o.bs:=by have:=OwnsB.setCell oB (p:=⟨w.heap.size + 1, 3, none⟩) (by omega) (.slice AB n cB);rw [<- HN.out] at this;exact OwnsB.mono this (by have:=HW.out; subst this; simp)
    have yB3 : Byts (w2.setCell ⟨w.heap.size + 1, 3, none⟩ (.slice AB n cB)) AB o.bs:=by obtain ⟨A', c', e', _, _, y', _⟩:=oB3.reads2 HBV.out;injection e' with e1 e2 e3;rw [<- e1] at y'; exact y'
    rw [<- HN.out] at oB;clear hsetB oB bB hb2 b1 b01 hb c3 yB b12 b02;have hR : ObR (w2.setCell ⟨w.heap.size + 1, 3, none⟩ (.slice AB n cB)) o none 0 AB cB:=⟨by rw [HBS.out]; exact Ints.nil _ _, yB3, by rw [HBS.out]; simp, by rw [<- HN.out]; exact l1, by omega, l2, fun _ => rfl, nB, by omega, by rw [HK.out]; omega⟩;have hen:=encode_ok o none 0 AB cB (w2.setCell ⟨w.heap.size + 1, 3, none⟩ (.slice AB n cB)) hR HC.out;unfold obV at hen;rw [HK.out, HBS.out, <- HN.out] at hen;have HEN:=hid hen;have HOW:=hid oB3;have hev : ∀ x ∈ encM o, 0 <= x /\ x <= 255:=by
     intro x hx;unfold encM at hx;rcases List.mem_append.1 hx with h | h
     ·exact allW_vals _ x h
     ·rcases List.mem_append.1 h with h | h
      ·exact allW_vals _ x h
      ·exact HBV.out x h
    have HEV:=hid hev;have c0:=b13.cell 0;have c1:=b13.cell 1;have c2:=b13.cell 2;have c3:=b13.cell 3;simp only [qTa, qTb, qTc] at c0 c1 c2 c3;have hlt13:=b13.lt;have hAE:=hid (HA.out.below hb3);clear hR hen hev yB3 oB3 c0 c1 c2 c3;rw [<- HN.out];go_wp2_with fail;refine HEN.out.mono ?_;rintro e w4 ⟨vE, rfl, oE, bE⟩;obtain ⟨AE, cE, rfl, k1, k2, yE, _⟩:=oE.reads2 HEV.out;have hq:=equalb_any w4 AE (some ⟨ab, aoff, none⟩) (encM o) E cE 12 yE (hAE.out.below bE) (by omega);rw [decide_eq_true (HE.out.symm : encM o = E), <- HP.out] at hq;have HQ:=hid hq;have b14:=b13.keep bE;have b04:=b03.keep bE;have hb4:=hb3.trans (bE.mono hb3.size);have HOW2:=hid (OwnsB.keep HOW.out bE);clear hq yE oE bE b13 b03 hb3 e0 e1 e2 e3 f2;go_wp2_with fail;rw [HP.out, HE.out];rw [HP.out, HE.out] at HQ;refine HQ.out.mono ?_;rintro e w5 ⟨rfl, bQ⟩;have b15:=b14.keep bQ;have b05:=b04.keep bQ;have hb5:=hb4.trans (bQ.mono hb4.size);have HOW3:=hid (OwnsB.keep HOW2.out bQ);have c0:=b15.cell 0;have c1:=b15.cell 1;have c2:=b15.cell 2;have c3:=b15.cell 3;simp only [qTa, qTb, qTc] at c0 c1 c2 c3;have d0:=b05.cell 0;have d1:=b05.cell 1;have d2:=b05.cell 2;have d3:=b05.cell 3;simp only [qTa, qTb, qTc] at d0 d1 d2 d3;have f3:=b05.frozen;have hlt3:=b05.lt;clear b14 b04 hb4 bQ;go_wp2_with fail;have HOW4:=HOW3.out;refine bodyPost_ret (res_cell_tmp rfl _ _ w.heap.size 29 _ (0, 0) _ rfl (b05.set1111 _ _ _ _) Tryz.underlying29 rfl size29) rfl ⟨_, rfl, ⟨_, _, by rw [HK.out], ?_, ?_, fun h => ?_, fun _ => rfl⟩, below_four hb5 (Nat.le_refl _) _ _ _ _⟩
    ·rw [HBS.out]; exact World.ownsRow_nil _ _ _ _
    ·refine OwnsB.mono (B:=w.heap.size + 2) ?_ (by omega);exact (((HOW4.setCell (by simp) _).setCell (by simp) _).setCell (by simp) _).setCell (by simp) _
    ·have:=HK.out; omega
 ·have HCL:=hid hcl2;clear hcl1 hcl2;go_enter Tryz.func65, Tryz.ntmps65;go_wp2_with fail;refine HG0.out.mono ?_;rintro e w1 ⟨rfl, rfl⟩;go_wp2_with fail;refine HG1.out.mono ?_;rintro e w1 ⟨rfl, rfl⟩;go_wp2_with fail;clear HG0 HG1;go_loopg [9, 10, 11] 0 (fun g s9 s10 s11 wr => ∃ (j : Nat), j + g = 0 /\ s9 = .int .i64 12 /\ wr = (w.alloc (.cells #[.int .i64 0, .int .i64 0, .slice none 0 0, .slice none 0 0] 29)).alloc (.cells #[.int .i64 o.cls, .int .i64 2, .slice none 0 0, .slice none 0 0] 29))
  case atStart => exact ⟨0, rfl, rfl, rfl⟩
  case round =>
   obtain ⟨j, hj, rfl, hwr⟩:=hrel;cases gk with
   | succ g => exact absurd hj (by omega)
   | zero =>
    rw [<- hwr] at b1 b01 hb;have HW:=hid hwr;clear hwr hbw;have hlt1:=b1.lt;have hlt0:=b01.lt;have c3:=b1.cell 3;simp only [qTa, qTb, qTc] at c3;have f1:=b1.frozen;go_wp2_with fail;refine (HCL.out wr hb).mono ?_;rintro e w2 ⟨vB, rfl, oB, bB⟩;obtain ⟨AB, cB, rfl, l1, l2, yB, nB⟩:=oB.reads2 HBV.out;rw [<- HN.out] at l1;have b12:=b1.keep bB;have b02:=b01.keep bB;have hb2:=hb.trans (bB.mono hb.size);have hsz2:=bB.size;have f2:=b12.frozen;have e0:=b12.cell 0;have e1:=b12.cell 1;have e2:=b12.cell 2;have e3:=b12.cell 3;simp only [qTa, qTb, qTc] at e0 e1 e2 e3;have b13:=b12.set_ 3 (.slice AB n cB);simp only [List.setIfInBounds_toArray, List.set_cons_succ, List.set_cons_zero] at b13;have b03:=b02.far (p:=⟨w.heap.size + 1, 3, none⟩) (by simp) (.slice AB n cB);have hb3:=hb2.setCell (p:=⟨w.heap.size + 1, 3, none⟩) (by simp) (.slice AB n cB);have hsetB : Below wr.heap.size wr w2:=bB;have oB3 : OwnsB (w2.setCell ⟨w.heap.size + 1, 3, none⟩ (.slice AB n cB)) (w.heap.size + 2) (.slice AB n cB) o.bs:=by have:=OwnsB.setCell oB (p:=⟨w.heap.size + 1, 3, none⟩) (by omega) (.slice AB n cB);rw [<- HN.out] at this;exact OwnsB.mono this (by have:=HW.out; subst this; simp)
    have yB3 : Byts (w2.setCell ⟨w.heap.size + 1, 3, none⟩ (.slice AB n cB)) AB o.bs:=by obtain ⟨A', c', e', _, _, y', _⟩:=oB3.reads2 HBV.out;injection e' with e1 e2 e3;rw [<- e1] at y'; exact y'
    rw [<- HN.out] at oB;clear hsetB oB bB hb2 b1 b01 hb c3 yB b12 b02;have hR : ObR (w2.setCell ⟨w.heap.size + 1, 3, none⟩ (.slice AB n cB)) o none 0 AB cB:=⟨by rw [HBS.out]; exact Ints.nil _ _, yB3, by rw [HBS.out]; simp, by rw [<- HN.out]; exact l1, by omega, l2, fun _ => rfl, nB, by omega, by rw [HK.out]; omega⟩;have hen:=encode_ok o none 0 AB cB (w2.setCell ⟨w.heap.size + 1, 3, none⟩ (.slice AB n cB)) hR HC.out;unfold obV at hen;rw [HK.out, HBS.out, <- HN.out] at hen;have HEN:=hid hen;have HOW:=hid oB3;have hev : ∀ x ∈ encM o, 0 <= x /\ x <= 255:=by
     intro x hx;unfold encM at hx;rcases List.mem_append.1 hx with h | h
     ·exact allW_vals _ x h
     ·rcases List.mem_append.1 h with h | h
      ·exact allW_vals _ x h
      ·exact HBV.out x h
    have HEV:=hid hev;have c0:=b13.cell 0;have c1:=b13.cell 1;have c2:=b13.cell 2;have c3:=b13.cell 3;simp only [qTa, qTb, qTc] at c0 c1 c2 c3;have hlt13:=b13.lt;have hAE:=hid (HA.out.below hb3);clear hR hen hev yB3 oB3 c0 c1 c2 c3;rw [<- HN.out];go_wp2_with fail;refine HEN.out.mono ?_;rintro e w4 ⟨vE, rfl, oE, bE⟩;obtain ⟨AE, cE, rfl, k1, k2, yE, _⟩:=oE.reads2 HEV.out;have hq:=equalb_any w4 AE (some ⟨ab, aoff, none⟩) (encM o) E cE cap yE (hAE.out.below bE) (by omega);rw [decide_eq_true (HE.out.symm : encM o = E), <- HP.out] at hq;have HQ:=hid hq;have b14:=b13.keep bE;have b04:=b03.keep bE;have hb4:=hb3.trans (bE.mono hb3.size);have HOW2:=hid (OwnsB.keep HOW.out bE);clear hq yE oE bE b13 b03 hb3 e0 e1 e2 e3 f2;go_wp2_with fail;rw [HP.out, HE.out];rw [HP.out, HE.out] at HQ;refine HQ.out.mono ?_;rintro e w5 ⟨rfl, bQ⟩;have b15:=b14.keep bQ;have b05:=b04.keep bQ;have hb5:=hb4.trans (bQ.mono hb4.size);have HOW3:=hid (OwnsB.keep HOW2.out bQ);have c0:=b15.cell 0;have c1:=b15.cell 1;have c2:=b15.cell 2;have c3:=b15.cell 3;simp only [qTa, qTb, qTc] at c0 c1 c2 c3;have d0:=b05.cell 0;have d1:=b05.cell 1;have d2:=b05.cell 2;have d3:=b05.cell 3;simp only [qTa, qTb, qTc] at d0 d1 d2 d3;have f3:=b05.frozen;have hlt3:=b05.lt;clear b14 b04 hb4 bQ;go_wp2_with fail;have HOW4:=HOW3.out;refine bodyPost_ret (res_cell_tmp rfl _ _ w.heap.size 29 _ (0, 0) _ rfl (b05.set1111 _ _ _ _) Tryz.underlying29 rfl size29) rfl ⟨_, rfl, ⟨_, _, by rw [HK.out], ?_, ?_, fun h => ?_, fun _ => rfl⟩, below_four hb5 (Nat.le_refl _) _ _ _ _⟩
    ·rw [HBS.out]; exact World.ownsRow_nil _ _ _ _
    ·refine OwnsB.mono (B:=w.heap.size + 2) ?_ (by omega);exact (((HOW4.setCell (by simp) _).setCell (by simp) _).setCell (by simp) _).setCell (by simp) _
    ·have:=HK.out; omega
end Go.Proofs.YtgaemfghpibeeaaGreatDoor
namespace Go.Proofs.YtgaemfghpibeeaaGreatDoor
open Go.RowKit Go.Maps
structure SecP where
 q : Nat
 t : Nat
 P : SpP
def SecP.set (Q : SecP) (k : Nat) : Prop:=k = Q.q \/ k = Q.t \/ Q.P.set k
def rowsV (V : List Ob) : List (List Int):=V.map encM
def extO (V : List Ob) (i : Nat) (o : Ob) : Value:=extV (fromR (rowsV V) i : Nat) (secs (encM o).length : Nat) ((encM o).length : Nat)
def idL (i : Nat) : Lit:=.int .i64 (i : Int)
structure SecAt (w : World) (Q : SecP) (N : Nat) (V : List Ob) : Prop where
 head : Blk w Q.q 112 #[.pointer (some ⟨Q.P.s, 0, none⟩), .map (some Q.t), .int .i64 V.length]
 space : SpaceAt w Q.P N (rowsV V)
 table : ∃ D, MapAt w 3 Q.t D /\ Maps.size D <= V.length /\ (∀ i o, V[i]? = some o -> Maps.has D (idL (i + 1)) = true /\ D.atKey (idL (i + 1)) (.held (extV 0 0 0)) = .held (extO V i o)) /\
  ∀ id : Int, (id < 1 \/ (V.length : Int) < id) -> Maps.has D (.int .i64 id) = false
 apart : Q.q ≠ Q.t /\ ¬ Q.P.set Q.q /\ ¬ Q.P.set Q.t
 ok : ∀ o ∈ V, checkM o = true
 small : V.length <= 2000
theorem SecAt.only {S : Nat -> Prop} {w w' : World} {Q : SecP} {N : Nat} {V : List Ob} (h : SecAt w Q N V) (ho : Only S w w') (hs : ∀ k, Q.set k -> ¬ S k) : SecAt w' Q N V:=by obtain ⟨D, hM, h1⟩:=h.table;exact ⟨h.head.only ho (hs _ (.inl rfl)), h.space.only ho (fun k hk => hs k (.inr (.inr hk))), ⟨D, hM.keep ho (hs _ (.inr (.inl rfl))), h1⟩, h.apart, h.ok, h.small⟩
theorem SecAt.below {w w' : World} {Q : SecP} {N : Nat} {V : List Ob} (h : SecAt w Q N V) (hb : Below w.heap.size w w') : SecAt w' Q N V:=h.only (only_of hb (fun _ => False)) (fun _ _ h => h)
theorem SecAt.lt {w : World} {Q : SecP} {N : Nat} {V : List Ob} (h : SecAt w Q N V) : ∀ k, Q.set k -> k < w.heap.size:=by
 obtain ⟨D, hM, h1⟩:=h.table;rintro k (rfl | rfl | hk)
 ·exact h.head.lt
 ·exact hM.lt
 ·exact h.space.lt k hk
theorem rowsV_get {V : List Ob} {i : Nat} {o : Ob} (h : V[i]? = some o) : (rowsV V)[i]? = some (encM o):=by simp [rowsV, h]
theorem secNew_any (N : Nat) (hN : N < 20000) (w : World) :
  Calls Tryz.prog 15 #[.int .i64 N] w fun e w' => ∃ Q : SecP, e = .returned (.tuple #[.pointer (some ⟨Q.q, 0, none⟩), .int .i64 0]) /\ SecAt w' Q N [] /\ (∀ k, Q.set k -> w.heap.size <= k) /\ Below w.heap.size w w':=by
 have hmm:=@run_makeMap Tryz.prog;go_enter Tryz.func15, Tryz.ntmps15;go_wp2_with fail;refine (extNew_any N hN _).mono ?_;rintro e w1 ⟨P, rfl, hS, hlow, hb⟩;have hM:=MapAt.made w1 3;have hM2:=hM.keep ((Only.refl (fun _ => False) _).alloc (.cells #[.pointer (some ⟨P.s, 0, none⟩), .map (some w1.heap.size), .int .i64 0] 112)) (fun h => h);have b0 : Blk ((w1.alloc (.map #[] 0)).alloc (.cells #[.pointer (some ⟨P.s, 0, none⟩), .map (some w1.heap.size), .int .i64 0] 112)) (w1.heap.size + 1) 112 #[.pointer (some ⟨P.s, 0, none⟩), .map (some w1.heap.size), .int .i64 0]:=by
  have:=Blk.new (w1.alloc (.map #[] 0)) 112 #[.pointer (some ⟨P.s, 0, none⟩), .map (some w1.heap.size), .int .i64 0];have e : (w1.alloc (.map #[] 0)).heap.size = w1.heap.size + 1:=by simp
  rwa [e] at this
 have hS2:=hS.only (((Only.refl (fun _ => False) w1).alloc (.map #[] 0)).alloc (.cells #[.pointer (some ⟨P.s, 0, none⟩), .map (some w1.heap.size), .int .i64 0] 112)) (fun _ _ h => h);have hz:=hb.size;have hlt:=hS.lt;have hb2:=(hb.alloc hz (.map #[] 0)).alloc (by simp; omega) (.cells #[.pointer (some ⟨P.s, 0, none⟩), .map (some w1.heap.size), .int .i64 0] 112);clear hM hS hb;go_wp2_with fail;go_ret2;refine ⟨⟨w1.heap.size + 1, w1.heap.size, P⟩, rfl, ⟨b0, hS2, ⟨.map [], hM2, by simp [Maps.size], by simp, fun _ _ => rfl⟩, ?_, by simp, by simp⟩, ?_, hb2⟩
 ·refine ⟨by simp, fun e => ?_, fun e => ?_⟩
  ·have:=hlt _ e; dsimp only at this; omega
  ·have:=hlt _ e; dsimp only at this; omega
 ·rintro k (rfl | rfl | hk)
  ·dsimp only; omega
  ·dsimp only; omega
  ·exact hlow k hk
theorem at_ok (Q : SecP) (N : Nat) (V : List Ob) (i : Nat) (o : Ob) (w : World) (h : SecAt w Q N V) (hi : V[i]? = some o) :
  Calls Tryz.prog 60 #[.pointer (some ⟨Q.q, 0, none⟩), .int .i64 ((i : Int) + 1)] w fun e w' => e = .returned (.tuple #[extO V i o, .int .i64 0]) /\ Below w.heap.size w w':=by
 have hb:=(Below.refl w.heap.size w).alloc (Nat.le_refl _) (.cells #[.int .i64 0, .int .i64 0, .int .i64 0] 143);have hO:=only_of hb (fun _ => False);obtain ⟨D, hM, _, hat, _⟩:=h.table;obtain ⟨h1, h2⟩:=hat i o hi;have hil:=(List.getElem?_eq_some_iff.1 hi).1;have hsm:=h.small;have hkey : keyOf Tryz.prog 3 (.int .i64 ((i : Int) + 1)) = some (idL (i + 1)):=by have:=keyI (a:=(i : Int) + 1) (by omega);rw [this];unfold idL;rw [Int.natCast_add]; rfl
 obtain ⟨v, hrun, hv⟩:=(hM.keep hO (fun h => h)).look2 law3 Tryz.underlying110 (z:=extV 0 0 0) (by kernel_rfl) hkey;rw [h2] at hv;injection hv with hv;rw [h1, <- hv] at hrun;have c1:=(h.head.only hO (fun h => h)).cell 1;simp only [qTa, qTb, qTc] at c1;have b0:=Blk.new w 143 #[.int .i64 0, .int .i64 0, .int .i64 0];unfold extO extV at hrun ⊢;obtain ⟨f, hf⟩ : ∃ f, f = fromR (rowsV V) i:=⟨_, rfl⟩;obtain ⟨n, hn⟩ : ∃ f, f = secs (encM o).length:=⟨_, rfl⟩;obtain ⟨p, hp⟩ : ∃ f, f = (encM o).length:=⟨_, rfl⟩;rw [<- hf, <- hn, <- hp] at hrun ⊢;clear hf hn hp hat h1 h2 hv hkey hM h hi;go_enter Tryz.func60, Tryz.ntmps60;go_wp2_with fail;have hb2:=((Below.refl w.heap.size w).alloc (Nat.le_refl _) (.cells #[.int .i64 f, .int .i64 n, .int .i64 p] 143)).alloc (by simp) (.cells #[.int .i64 f, .int .i64 n, .int .i64 p] 143);exact bodyPost_ret (res_cell_tmp rfl _ _ w.heap.size 143 _ (0, 0) _ rfl ((Blk.new w 143 #[.int .i64 f, .int .i64 n, .int .i64 p]).alloc _) Tryz.underlying143 rfl size143) rfl ⟨rfl, hb2⟩
theorem at_no (Q : SecP) (N : Nat) (V : List Ob) (id : Int) (w : World) (h : SecAt w Q N V) (hi : id < 1 \/ (V.length : Int) < id) (hid : -9223372036854775808 <= id /\ id <= 9223372036854775807) :
  Calls Tryz.prog 60 #[.pointer (some ⟨Q.q, 0, none⟩), .int .i64 id] w fun e w' => e = .returned (.tuple #[extV 0 0 0, .int .i64 4]) /\ Below w.heap.size w w':=by
 have hb:=(Below.refl w.heap.size w).alloc (Nat.le_refl _) (.cells #[.int .i64 0, .int .i64 0, .int .i64 0] 143);have hO:=only_of hb (fun _ => False);obtain ⟨D, hM, _, _, hno⟩:=h.table;have h1:=hno id hi;obtain ⟨v, hrun, hv⟩:=(hM.keep hO (fun h => h)).look2 law3 Tryz.underlying110 (z:=extV 0 0 0) (by kernel_rfl) (keyI hid);rw [atKey_of_not_has h1] at hv;injection hv with hv;rw [h1, <- hv] at hrun;have c1:=(h.head.only hO (fun h => h)).cell 1;simp only [qTa, qTb, qTc] at c1;have b0:=Blk.new w 143 #[.int .i64 0, .int .i64 0, .int .i64 0];unfold extV at hrun ⊢;clear h1 hno hv hM h hi;go_enter Tryz.func60, Tryz.ntmps60;go_wp2_with fail;have hb2:=hb.alloc (by simp) (.cells #[.int .i64 0, .int .i64 0, .int .i64 0] 143);exact bodyPost_ret (res_cell_tmp rfl _ _ w.heap.size 143 _ (0, 0) _ rfl (b0.alloc _) Tryz.underlying143 rfl size143) rfl ⟨rfl, hb2⟩
def hasM (V : List Ob) (id : Int) : Bool:=decide (1 <= id) && decide (id <= V.length)
theorem secHas_any (Q : SecP) (N : Nat) (V : List Ob) (id : Int) (w : World) (h : SecAt w Q N V) (hid : -9223372036854775808 <= id /\ id <= 9223372036854775807) :
  Calls Tryz.prog 29 #[.pointer (some ⟨Q.q, 0, none⟩), .int .i64 id] w fun e w' => e = .returned (.bool (hasM V id)) /\ Below w.heap.size w w':=by
 by_cases hi : 1 <= id /\ id <= V.length
 ·have hM : hasM V id = true:=by simp [hasM, hi]
  obtain ⟨i, rfl⟩ : ∃ i : Nat, id = (i : Int) + 1:=⟨id.toNat - 1, by omega⟩;have hil : i < V.length:=by omega
  have ha:=Lib.hid (at_ok Q N V i V[i] w h (getElem?_eq_getElem hil));rw [hM];clear hM hi h;unfold extO extV at ha;go_enter Tryz.func29, Tryz.ntmps29;go_wp2_with fail;refine ha.out.mono ?_;rintro e w1 ⟨rfl, hb⟩;go_wp2_with fail;go_ret;exact ⟨rfl, hb.alloc hb.size _⟩
 ·have hM : hasM V id = false:=by
   unfold hasM;rcases Int.lt_or_le id 1 with h1 | h1
   ·rw [decide_eq_false (by omega)]; rfl
   ·rw [decide_eq_false (show ¬ (id <= (V.length : Int)) by omega)]; simp
  have ha:=Lib.hid (at_no Q N V id w h (by omega) hid);rw [hM];clear hM hi h;unfold extV at ha;go_enter Tryz.func29, Tryz.ntmps29;go_wp2_with fail;refine ha.out.mono ?_;rintro e w1 ⟨rfl, hb⟩;go_wp2_with fail;go_ret;exact ⟨rfl, hb.alloc hb.size _⟩
theorem secMade_any (Q : SecP) (N : Nat) (V : List Ob) (w : World) (h : SecAt w Q N V) :
  Calls Tryz.prog 165 #[.pointer (some ⟨Q.q, 0, none⟩)] w fun e w' => e = .returned (.int .i64 V.length) /\ w = w':=by
 have c2:=h.head.cell 2;simp only [qTa, qTb, qTc] at c2;go_enter Tryz.func165, Tryz.ntmps165;go_wp2_with fail;go_ret;exact ⟨rfl, rfl⟩
theorem secUsed_any (Q : SecP) (N : Nat) (V : List Ob) (w : World) (h : SecAt w Q N V) :
  Calls Tryz.prog 37 #[.pointer (some ⟨Q.q, 0, none⟩)] w fun e w' => e = .returned (.int .i64 (rowsLen (rowsV V) : Nat)) /\ w = w':=by
 have c0:=h.head.cell 0;simp only [qTa, qTb] at c0;have hu:=Lib.hid (extUsed_any Q.P N (rowsV V) w h.space);go_enter Tryz.func37, Tryz.ntmps37;go_wp2_with fail;refine hu.out.mono ?_;rintro e w' ⟨rfl, rfl⟩;go_wp2;go_ret;exact ⟨rfl, rfl⟩
end Go.Proofs.YtgaemfghpibeeaaGreatDoor
namespace Go.Proofs.YtgaemfghpibeeaaGreatDoor
open Go.RowKit Go.Maps
attribute [local go_sem ↓] Go.wp_at_zero Go.wp_at_succ
theorem decode_any (o : Ob) (hc : checkM o = true) (A : Option Addr) (cap : Nat) (w : World) (hA : Byts w A (encM o)) (hcap : (encM o).length <= cap /\ cap <= 9223372036854775807) :
  Calls Tryz.prog 65 #[.slice A (encM o).length cap] w (RetO o w):=by
 obtain ⟨_, h2⟩:=checkM_parts hc;rcases h2 with ⟨hk, _⟩ | ⟨hk, _⟩
 ·exact decode_words o hc hk A cap w hA hcap
 ·exact decode_bytes o hc hk A cap w hA hcap
theorem encM_small {o : Ob} (hc : checkM o = true) : 12 <= (encM o).length /\ (encM o).length <= 6000:=by have:=encM_length o;have:=checkM_small hc;omega
theorem encM_vals {o : Ob} (h : ∀ v ∈ o.bs, 0 <= v /\ v <= 255) : ∀ v ∈ encM o, 0 <= v /\ v <= 255:=by
 intro x hx;unfold encM at hx;rcases List.mem_append.1 hx with h1 | h1
 ·exact allW_vals _ x h1
 ·rcases List.mem_append.1 h1 with h2 | h2
  ·exact allW_vals _ x h2
  ·exact h x h2
theorem FreshO.parts {o : Ob} {w w' : World} {v : Value} (h : FreshO o w v w') (hc : checkM o = true) (hb : ∀ x ∈ o.bs, 0 <= x /\ x <= 255) :
  ∃ A ca B cb, v = .agg (obV o A ca B cb) /\ ObR w' o A ca B cb /\ OwnsI w' w.heap.size (.slice A o.ws.length ca) o.ws /\ OwnsB w' w.heap.size (.slice B o.bs.length cb) o.bs /\ (o.kind = 1 -> B = none) /\ (o.kind = 2 -> A = none):=by
 obtain ⟨vW, vB, rfl, hI, hB, h1, h2⟩:=h;have hbd:=checkM_bd hc;obtain ⟨A, ca, rfl, l1, l2, hA, na⟩:=hI.reads (fun x hx => by have:=hbd x (by simp [hx]); omega);obtain ⟨B, cb, rfl, l3, l4, hBy, nb⟩:=hB.reads2 hb;have b1:=hbd o.cls (by simp);have b2:=hbd o.kind (by simp);refine ⟨A, ca, B, cb, rfl, ⟨hA, hBy, l1, l3, l2, l4, na, nb, by omega, by omega⟩, hI, hB, fun h => ?_, fun h => ?_⟩
 ·have:=h1 h; injection this
 ·have:=h2 h; injection this
def FetchR (Q : SecP) (N : Nat) (V : List Ob) (o : Ob) (w : World) (e : Ending) (w' : World) : Prop :=
 ∃ v, e = .returned (.tuple #[v, .int .i64 0]) /\ FreshO o w v w' /\ SecAt w' Q N V /\ Only (fun g => g = Q.P.d) w w'
theorem SecAt.vals {w : World} {Q : SecP} {N : Nat} {V : List Ob} {i : Nat} {o : Ob} (h : SecAt w Q N V) (hi : V[i]? = some o) : ∀ x ∈ o.bs, 0 <= x /\ x <= 255:=by
 intro x hx;have h1:=diskR_row (N:=N) (rowsV_get hi) (secs (encM o).length) (Nat.le_refl _);rw [take_of_length_le (l:=padS (encM o)) (by rw [padS_length]; exact Nat.le_refl _)] at h1;have h2 : x ∈ padS (encM o):=by unfold padS encM;exact List.mem_append_left _ (List.mem_append_right _ (List.mem_append_right _ hx))
 rw [<- h1] at h2;exact h.space.disk.vals x (List.mem_of_mem_drop (List.mem_of_mem_take h2))
def Keep4 (p0 p1 p2 p3 : Addr) (v0 v1 v2 v3 : Value) (w : World) : Prop:=w.cell? p0 = some v0 /\ w.cell? p1 = some v1 /\ w.cell? p2 = some v2 /\ w.cell? p3 = some v3
theorem Keep4.only {p0 p1 p2 p3 : Addr} {v0 v1 v2 v3 : Value} {S : Nat -> Prop} {w w' : World} (h : Keep4 p0 p1 p2 p3 v0 v1 v2 v3 w) (ho : Only S w w') (h0 : p0.block < w.heap.size /\ ¬ S p0.block) (h1 : p1.block < w.heap.size /\ ¬ S p1.block) (h2 : p2.block < w.heap.size /\ ¬ S p2.block) (h3 : p3.block < w.heap.size /\ ¬ S p3.block) :
  Keep4 p0 p1 p2 p3 v0 v1 v2 v3 w' :=
 ⟨(ho.cell h0.1 h0.2).trans h.1, (ho.cell h1.1 h1.2).trans h.2.1, (ho.cell h2.1 h2.2).trans h.2.2.1, (ho.cell h3.1 h3.2).trans h.2.2.2⟩
theorem SpaceAt.drew {w : World} {P : SpP} {N : Nat} {rows : List (List Int)} (h : SpaceAt w P N rows) : SpaceAt w.drew P N rows:=h.only (only_drew (fun _ => False) w) (fun _ _ h => h)
theorem fetch_ok (Q : SecP) (N : Nat) (V : List Ob) (i : Nat) (o : Ob) (w : World) (h : SecAt w Q N V) (hi : V[i]? = some o) :
  Calls Tryz.prog 34 #[.pointer (some ⟨Q.q, 0, none⟩), .int .i64 ((i : Int) + 1)] w (FetchR Q N V o w):=by
 have hb:=(Below.refl w.heap.size w).alloc (Nat.le_refl _) (.cells zeroO 29);have hS0:=h.below hb;have ha:=at_ok Q N V i o _ hS0 hi;have b0:=Blk.new w 29 zeroO;have hget:=fun (W : World) (hS : SpaceAt W Q.P N (rowsV V)) => extGet_any Q.P N (rowsV V) i (encM o) W hS (rowsV_get hi);have hok:=h.ok o (mem_of_getElem? hi);have hes:=encM_small hok;have hdec:=fun (W : World) A (hA : Byts W A (encM o)) => decode_any o hok A (encM o).length W hA (by omega);have hbv:=h.vals hi;have hparts:=fun (W W' : World) (v : Value) (hF : FreshO o W v W') => hF.parts hok hbv;have hlt:=h.lt;unfold zeroO at *;unfold extO at ha;unfold extV at ha hget;obtain ⟨f, hf⟩ : ∃ f, f = fromR (rowsV V) i:=⟨_, rfl⟩;obtain ⟨n, hn⟩ : ∃ f, f = secs (encM o).length:=⟨_, rfl⟩;obtain ⟨p, hp⟩ : ∃ f, f = (encM o).length:=⟨_, rfl⟩;rw [<- hf, <- hn, <- hp] at ha hget;rw [<- hp] at hdec;have HA:=hid ha;have HG:=hid hget;have HD:=hid hdec;have HP:=hid hparts;have HLT:=hid hlt;clear ha hget hdec hparts hf hn hp hi h hbv hlt;go_enter Tryz.func34, Tryz.ntmps34;go_wp2_with fail;refine HA.out.mono ?_;rintro e w1 ⟨rfl, hb1⟩;have hS1:=(hS0.below hb1).below ((Below.refl w1.heap.size w1).alloc (Nat.le_refl _) (.cells #[.int .i64 f, .int .i64 n, .int .i64 p] 143));have b1:=(b0.keep hb1).alloc (.cells #[.int .i64 f, .int .i64 n, .int .i64 p] 143);have x1:=Blk.new w1 143 #[.int .i64 f, .int .i64 n, .int .i64 p];have hb2:=(hb.trans (hb1.mono hb.size)).alloc (hb.trans (hb1.mono hb.size)).size (.cells #[.int .i64 f, .int .i64 n, .int .i64 p] 143);have hz1:=(hb.trans (hb1.mono hb.size)).size;have hlow : w.heap.size < w1.heap.size:=(b0.keep hb1).lt;clear hb hb1 hS0 b0 HA;go_wp2_with fail;generalize w1.alloc (.cells #[.int .i64 f, .int .i64 n, .int .i64 p] 143) = W at hS1 b1 x1 hb2 ⊢;have q0:=hS1.head.cell 0;have x0:=x1.cell 0;have x01:=x1.cell 1;have x02:=x1.cell 2;simp only [qTa, qTb, qTc] at q0 x0 x01 x02;have hg:=hid (HG.out W.drew hS1.space.drew);have hqd : Q.q ≠ Q.P.d:=fun e => hS1.apart.2.1 (by rw [e]; exact .inr (.inl rfl));have htd : Q.t ≠ Q.P.d:=fun e => hS1.apart.2.2 (by rw [e]; exact .inr (.inl rfl));have hdl : Q.P.d < w.heap.size:=HLT.out _ (.inr (.inr (.inr (.inl rfl))));have hql : Q.q < W.heap.size:=hS1.head.lt;have hxl:=x1.lt;have hxd : w1.heap.size ≠ Q.P.d:=by omega
 go_region_held3 (fun w' => w'.cell? ⟨Q.q, 0, none⟩ = some (.pointer (some ⟨Q.P.s, 0, none⟩)) /\ w'.cell? ⟨w1.heap.size, 0, none⟩ = some (.int .i64 f) /\ w'.cell? ⟨w1.heap.size, 1, none⟩ = some (.int .i64 n) /\ w'.cell? ⟨w1.heap.size, 2, none⟩ = some (.int .i64 p))
  (first | go_keep | exact Keep4.only (by assumption) hO2 ⟨by simpa using hql, hqd⟩ ⟨by simpa using hxl, hxd⟩ ⟨by simpa using hxl, hxd⟩ ⟨by simpa using hxl, hxd⟩)
  (first | (go_at_call 64; refine hg.out.mono ?_; rintro e w2 ⟨A, rfl, hY, hS2, hO2⟩))
 have hO2W : Only (fun g => g = Q.P.d) W w2:=(only_drew _ _).trans hO2;have hS3 : SecAt w2 Q N V:=by obtain ⟨D, hM, q1, q2⟩:=hS1.table;exact ⟨hS1.head.only hO2W hqd, hS2, ⟨D, hM.keep hO2W htd, q1, q2⟩, hS1.apart, hS1.ok, hS1.small⟩
 have b2:=b1.only hO2W (by omega);have hOw2:=(only_of hb2 (fun g => g = Q.P.d)).trans hO2W;have hdc:=hid (HD.out w2 A hY);clear hS1 hS2 hO2 hO2W hY b1 x1 hb2 q0 x0 x01 x02 hg;go_wp2_with fail;refine hdc.out.mono ?_;rintro e w3 ⟨v, rfl, hF, hb3⟩;obtain ⟨A', ca, B', cb, rfl, hR, hI, hB, _⟩:=HP.out _ _ v hF;have hS4:=hS3.below hb3;have b3:=b2.keep hb3;have hOw3:=hOw2.trans (only_of hb3 (fun g => g = Q.P.d));have hz2 : w.heap.size < w2.heap.size:=b2.lt;have f3:=b3.frozen;have c0:=b3.cell 0;have c1:=b3.cell 1;have c2:=b3.cell 2;have c3:=b3.cell 3;simp only [qTa, qTb, qTc] at c0 c1 c2 c3;have HF:=hid hF;have HI:=hid hI;have HB:=hid hB;unfold obV at HF ⊢;clear hS3 b2 hOw2 hdc hb3 hF hR hI hB;go_wp2_with fail;have hF4 : ∀ g, Q.set g -> g ≠ w.heap.size:=fun g hg => by have:=HLT.out g hg; omega
 have hO4 : Only (fun g => g = w.heap.size) w3 ((((w3.setCell ⟨w.heap.size, 0, none⟩ (.int .i64 o.cls)).setCell ⟨w.heap.size, 1, none⟩ (.int .i64 o.kind)).setCell ⟨w.heap.size, 2, none⟩ (.slice A' o.ws.length ca)).setCell ⟨w.heap.size, 3, none⟩ (.slice B' o.bs.length cb)) :=
  ((((Only.refl (fun g => g = w.heap.size) w3).setCell (p:=⟨w.heap.size, 0, none⟩) (.inl rfl) _).setCell (p:=⟨w.heap.size, 1, none⟩) (.inl rfl) _).setCell (p:=⟨w.heap.size, 2, none⟩) (.inl rfl) _).setCell (p:=⟨w.heap.size, 3, none⟩) (.inl rfl) _
 obtain ⟨vW, vB, hv, hI2, hB2, k1, k2⟩:=HF.out;have e:=congrArg (fun v : Value => v.cells) hv;simp only [Value.cells] at e;have e2:=congrArg (fun a : Array Value => a[2]?) e;have e3:=congrArg (fun a : Array Value => a[3]?) e;simp only [qTa, qTb, qTc] at e2 e3;injection e2 with e2;injection e3 with e3;subst e2;subst e3;refine bodyPost_ret (res_cell_tmp rfl _ _ w.heap.size 29 _ (0, 0) _ rfl (b3.set1111 _ _ _ _) Tryz.underlying29 rfl size29) rfl ⟨_, rfl, ⟨_, _, rfl, ?_, ?_, k1, k2⟩, hS4.only hO4 (fun k hk e => hF4 k hk e), ?_⟩
 ·exact (hI2.only hO4 (fun g e => by omega)).mono (by omega)
 ·exact (hB2.only hO4 (fun g e => by omega)).mono (by omega)
 ·exact Only.shrink ((hOw3.mono (fun g h => Or.inl h)).trans (hO4.mono (T:=fun g => g = Q.P.d \/ g = w.heap.size) (fun g h => Or.inr h))) (fun g h => h.imp id (fun h => by omega))
end Go.Proofs.YtgaemfghpibeeaaGreatDoor
namespace Go.Proofs.YtgaemfghpibeeaaGreatDoor
open Go.RowKit Go.Maps
theorem rowsV_append (V : List Ob) (o : Ob) : rowsV (V ++ [o]) = rowsV V ++ [encM o]:=by simp [rowsV]
theorem idL_key (i : Nat) : WideAt.IsKeyLit (idL i):=trivial
theorem idL_ne {i : Nat} {id : Int} (h : id ≠ i) : (Lit.int .i64 id) ≠ idL i:=by intro e;unfold idL at e;injection e with _ e;exact h e
theorem extO_append {V : List Ob} {o o' : Ob} {i : Nat} (hi : i < V.length) : extO (V ++ [o']) i o = extO V i o:=by unfold extO;rw [rowsV_append, (fromR_snoc _ _).1 i (by simpa [rowsV] using hi)]
theorem SecAt.make {w w' : World} {Q : SecP} {N : Nat} {V : List Ob} {o : Ob} (h : SecAt w Q N V) (hc : checkM o = true) (hsm : V.length < 2000)
  (hh : Blk w' Q.q 112 #[.pointer (some ⟨Q.P.s, 0, none⟩), .map (some Q.t), .int .i64 ((V.length : Int) + 1)]) (hs : SpaceAt w' Q.P N (rowsV V ++ [encM o])) {D : DataW Value} (hM0 : MapAt w 3 Q.t D) (hsz : Maps.size D <= V.length)
  (hat : (∀ i o, V[i]? = some o -> Maps.has D (idL (i + 1)) = true /\ D.atKey (idL (i + 1)) (.held (extV 0 0 0)) = .held (extO V i o)) /\ ∀ id : Int, (id < 1 \/ (V.length : Int) < id) -> Maps.has D (.int .i64 id) = false)
  (hM : MapAt w' 3 Q.t (D.put (idL (V.length + 1)) (.held (extV (rowsLen (rowsV V) : Nat) (secs (encM o).length : Nat) ((encM o).length : Nat))))) : SecAt w' Q N (V ++ [o]):=by
 have hT:=World.ownsMap.tidy hM0 law3;refine ⟨?_, by rw [rowsV_append]; exact hs, ⟨_, hM, ?_, ?_, ?_⟩, h.apart, ?_, by simp; omega⟩
 ·have e : ((V ++ [o]).length : Int) = (V.length : Int) + 1:=by simp
  rw [e]; exact hh
 ·rw [size_put hT, length_append];split <;> simp <;> omega
 ·intro i x hx;rcases Nat.lt_or_ge i V.length with hlt | hge
  ·rw [getElem?_append_left hlt] at hx;have hne : idL (i + 1) ≠ idL (V.length + 1):=idL_ne (by omega);rw [has_put_other hne, atKey_put_other hne, extO_append hlt];exact hat.1 i x hx
  ·have hi':=(List.getElem?_eq_some_iff.1 hx).1;rw [length_append, List.length_singleton] at hi';obtain rfl : i = V.length:=by omega
   rw [getElem?_append_right (Nat.le_refl _), Nat.sub_self] at hx;injection hx with hx;subst hx;refine ⟨has_put_same hM0.isMap (idL_key _) _, ?_⟩;rw [atKey_put_same hM0.isMap (idL_key _)];unfold extO;rw [rowsV_append];have e:=(fromR_snoc (rowsV V) (encM o)).2;have e2 : (rowsV V).length = V.length:=by simp [rowsV]
   rw [e2] at e;rw [e]
 ·intro id hid;rw [length_append, List.length_singleton] at hid;rw [has_put_other (idL_ne (by omega))];exact hat.2 id (by omega)
 ·intro x hx;rcases List.mem_append.1 hx with h1 | h1
  ·exact h.ok x h1
  ·rw [List.mem_singleton] at h1; subst h1; exact hc
theorem make_full (Q : SecP) (N : Nat) (V : List Ob) (o : Ob) (A : Option Addr) (ca : Nat) (B : Option Addr) (cb : Nat) (w : World) (h : SecAt w Q N V) (hO : ObR w o A ca B cb) (hc : checkM o = true) (hfull : ¬ (rowsLen (rowsV V) + secs (encM o).length <= N)) :
  Calls Tryz.prog 167 #[.pointer (some ⟨Q.q, 0, none⟩), .agg (obV o A ca B cb)] w fun e w' => e = .returned (.tuple #[.int .i64 0, .int .i64 3]) /\ Below w.heap.size w w':=by
 have hb:=(Below.refl w.heap.size w).alloc (Nat.le_refl _) (.cells (obV o A ca B cb) 29);have hS0:=h.below hb;have hen:=encode_ok o A ca B cb _ (hO.alloc (.cells (obV o A ca B cb) 29)) hc;have hes:=encM_small hc;have hput:=fun (W : World) (hS : SpaceAt W Q.P N (rowsV V)) A cap => extPut_full Q.P N (rowsV V) A (encM o) cap W hS (by omega) hfull;have hev:=encM_vals hO.byts.vals;have hsm:=h.small;unfold obV extV at *;obtain ⟨p, hp⟩ : ∃ f, f = (encM o).length:=⟨_, rfl⟩;rw [<- hp] at hput;have HE:=Lib.hid hen;have HP:=Lib.hid hput;have HV:=Lib.hid hev;have HL:=Lib.hid hp;clear hen hput hev hp h hO hc hfull;go_enter Tryz.func167, Tryz.ntmps167;go_wp2_with fail;refine HE.out.mono ?_;rintro e w1 ⟨v, rfl, hown, hb1⟩;obtain ⟨A1, c1, rfl, _, _, _, _⟩:=hown.reads2 HV.out;rw [<- HL.out];have hS1:=hS0.below hb1;have hb2:=hb.trans (hb1.mono hb.size);have q0:=hS1.head.cell 0;have q2:=hS1.head.cell 2;simp only [qTa, qTb, qTc] at q0 q2;have hmx : ¬ ((V.length : Int) = 1048576):=by omega
 have hmb : ((V.length : Int) == 1048576) = false:=by rw [beq_eq_false_iff_ne]; exact hmx
 have hp:=Lib.hid (HP.out w1 hS1.space A1 c1);clear hb hb1 hS0 hown;go_wp2_with fail;refine hp.out.mono ?_;rintro e w2 ⟨rfl, hb3⟩;have hb4:=hb2.trans (hb3.mono hb2.size);go_wp2_with fail;go_ret2;exact ⟨rfl, hb4.alloc hb4.size _⟩
end Go.Proofs.YtgaemfghpibeeaaGreatDoor
namespace Go.Proofs.YtgaemfghpibeeaaGreatDoor
theorem nodup_length : ∀ (n : Nat) (l : List Nat), l.Nodup -> (∀ i ∈ l, 1 <= i /\ i <= n) -> l.length <= n:=by
 intro n
 induction n with
 | zero =>
  intro l _ h;cases l with
  | nil => simp
  | cons a l => have:=h a (by simp); omega
 | succ n ih =>
  intro l hd h;by_cases hm : n + 1 ∈ l
  ·have h1:=ih (l.erase (n + 1)) (hd.erase _) (fun i hi => by have h2:=(hd.mem_erase_iff).1 hi;have:=h i h2.2;have:=h2.1;omega)
   rw [List.length_erase_of_mem hm] at h1;omega
  ·have:=ih l hd (fun i hi => by have:=h i hi;have h3 : i ≠ n + 1:=fun e => hm (e ▸ hi);omega)
   omega
structure NearI (V : List Ob) (R : List Int) (out T : List Nat) : Prop where
 nd : out.Nodup
 so : ∀ i ∈ out, Reach V R i
 st : ∀ i ∈ T, Reach V R i
 rt : ∀ o ∈ R, (namM o).2 = true -> (namM o).1 <= V.length -> (namM o).1.toNat ∈ out \/ (namM o).1.toNat ∈ T
 cl : ∀ a ∈ out, ∀ x, V[a - 1]? = some x -> ∀ k ∈ refsM x, k <= V.length -> k.toNat ∈ out \/ k.toNat ∈ T
 big : T.length <= R.length + 1001 * out.length
section
variable {V : List Ob} {R : List Int} {out T : List Nat} {i : Nat}
theorem NearI.start (hR : R = T.map fun (i : Nat) => 2 * (i : Int)) (hb : ∀ i ∈ T, 1 <= i /\ i <= V.length) (hV : V.length <= 2000) : NearI V R [] T:=by
 refine ⟨List.nodup_nil, by simp, ?_, ?_, by simp, by rw [hR]; simp⟩
 ·intro i hi;obtain ⟨h1, h2⟩:=hb i hi;have hn:=namM_two h1 (by omega);have:=Reach.root (V:=V) (R:=R) (2 * (i : Int)) (by rw [hR]; exact List.mem_map.2 ⟨i, hi, rfl⟩) (by rw [hn]) (by rw [hn]; simp only; omega);rw [hn] at this
  simpa using this
 ·intro o ho h1 h2;rw [hR] at ho;obtain ⟨i, hi, rfl⟩:=List.mem_map.1 ho;obtain ⟨h3, h4⟩:=hb i hi;rw [namM_two h3 (by omega)];exact .inr (by simpa using hi)
theorem NearI.bd (h : NearI V R out T) : (∀ i ∈ T, 1 <= i /\ i <= V.length) /\ (∀ i ∈ out, 1 <= i /\ i <= V.length):=⟨fun i hi => (h.st i hi).bd, fun i hi => (h.so i hi).bd⟩
theorem NearI.few (h : NearI V R out T) : out.length <= V.length:=nodup_length _ _ h.nd h.bd.2
theorem NearI.old (h : NearI V R out (T ++ [i])) (hi : i ∈ out) : NearI V R out T:=by
 refine ⟨h.nd, h.so, fun j hj => h.st j (List.mem_append_left _ hj), ?_, ?_, ?_⟩
 ·intro o ho h1 h2;rcases h.rt o ho h1 h2 with h3 | h3
  ·exact .inl h3
  ·rcases List.mem_append.1 h3 with h4 | h4
   ·exact .inr h4
   ·rw [List.mem_singleton.1 h4]; exact .inl hi
 ·intro a ha x hx k hk hl;rcases h.cl a ha x hx k hk hl with h3 | h3
  ·exact .inl h3
  ·rcases List.mem_append.1 h3 with h4 | h4
   ·exact .inr h4
   ·rw [List.mem_singleton.1 h4]; exact .inl hi
 ·have:=h.big;rw [length_append] at this;omega
theorem NearI.new {x : Ob} (h : NearI V R out (T ++ [i])) (hi : ¬ i ∈ out) (hx : V[i - 1]? = some x) (hn : ∀ k ∈ refsM x, k <= V.length) (hl : x.ws.length <= 1000) : NearI V R (out ++ [i]) (T ++ (refsM x).map Int.toNat):=by
 have hri:=h.st i (by simp);have keep : ∀ j, j ∈ out \/ j ∈ T ++ [i] -> j ∈ out ++ [i] \/ j ∈ T ++ (refsM x).map Int.toNat:=by
  intro j hj;rcases hj with h1 | h1
  ·exact .inl (List.mem_append_left _ h1)
  ·rcases List.mem_append.1 h1 with h2 | h2
   ·exact .inr (List.mem_append_left _ h2)
   ·exact .inl (List.mem_append_right _ h2)
 refine ⟨?_, ?_, ?_, ?_, ?_, ?_⟩
 ·rw [List.nodup_append];refine ⟨h.nd, by simp, ?_⟩;intro a ha b hb e;rw [List.mem_singleton] at hb;exact hi (by rw [<- hb, <- e]; exact ha)
 ·intro j hj;rcases List.mem_append.1 hj with h1 | h1
  ·exact h.so j h1
  ·rw [List.mem_singleton.1 h1]; exact hri
 ·intro j hj;rcases List.mem_append.1 hj with h1 | h1
  ·exact h.st j (List.mem_append_left _ h1)
  ·obtain ⟨k, hk, rfl⟩:=List.mem_map.1 h1;exact Reach.step i x k hri hx hk (hn k hk)
 ·intro o ho h1 h2;exact keep _ (h.rt o ho h1 h2)
 ·intro a ha y hy k hk hkl;rcases List.mem_append.1 ha with h1 | h1
  ·exact keep _ (h.cl a h1 y hy k hk hkl)
  ·rw [List.mem_singleton] at h1;subst h1;rw [hx] at hy;cases hy
   exact .inr (List.mem_append_right _ (List.mem_map.2 ⟨k, hk, rfl⟩))
 ·have h1:=h.big;have h2 : (refsM x).length <= (x.cls :: x.ws).length:=List.length_filterMap_le _ _;simp only [length_append, List.length_map, List.length_cons, List.length_nil] at h1 h2 ⊢;omega
theorem NearI.done (h : NearI V R out []) : ∀ i, i ∈ out ↔ Reach V R i:=by
 intro i;refine ⟨h.so i, fun hr => ?_⟩
 induction hr with
 | root o ho hn hl => exact (h.rt o ho hn hl).resolve_right (by simp)
 | step a x k ha hx hk hl ih => exact (h.cl a ih x hx k hk hl).resolve_right (by simp)
theorem NearI.sorted (h : NearI V R out []) : ∃ all : List Nat, ((out.map fun (i : Nat) => (i : Int)).mergeSort fun x y => decide (x <= y)) = all.map (fun (i : Nat) => (i : Int)) /\ all.length = out.length /\ Near V R all:=by
 refine ⟨out.mergeSort fun a b => decide (a <= b), ?_, List.length_mergeSort _, ?_, ?_⟩
 ·rw [List.map_mergeSort];intro a _ b _;simp
 ·have hp:=List.mergeSort_perm out (fun a b => decide (a <= b));have hn:=hp.nodup_iff.2 h.nd;have hs : (out.mergeSort fun a b => decide (a <= b)).Pairwise (fun a b => decide (a <= b) = true):=List.pairwise_mergeSort (by intro a b c; simp; omega) (by intro a b; simp; omega) out;have:=List.Pairwise.and hs hn;exact this.imp (fun ⟨h1, h2⟩ => by have:=of_decide_eq_true h1; omega)
 ·intro i;rw [(List.mergeSort_perm out _).mem_iff];exact h.done i
end
end Go.Proofs.YtgaemfghpibeeaaGreatDoor
namespace Go.Proofs.YtgaemfghpibeeaaGreatDoor
open Go.RowKit Go.Maps
theorem intL_ne {a b : Int} (h : a ≠ b) : (Lit.int .i64 a) ≠ .int .i64 b:=by intro e;injection e with _ e;exact h e
theorem intL_key (a : Int) : WideAt.IsKeyLit (Lit.int .i64 a):=trivial
structure SeenD (out : List Nat) (D : DataW Value) : Prop where
 sz : Maps.size D <= out.length
 at_ : ∀ i : Nat, D.atKey (.int .i64 (i : Int)) (.held (.bool false)) = .held (.bool (decide (i ∈ out)))
theorem SeenD.start : SeenD [] (.map []):=⟨by simp [Maps.size], fun i => by rw [atKey_of_not_has rfl];simp⟩
theorem SeenD.new {out : List Nat} {D : DataW Value} {w : World} {b : Nat} (h : SeenD out D) (hM : MapAt w 3 b D) (i : Nat) : SeenD (out ++ [i]) (D.put (.int .i64 (i : Int)) (.held (.bool true))):=by
 refine ⟨?_, fun j => ?_⟩
 ·rw [size_put (World.ownsMap.tidy hM law3), length_append];have:=h.sz;split <;> simp <;> omega
 ·by_cases e : j = i
  ·subst e;rw [atKey_put_same hM.isMap (intL_key _)];simp
  ·rw [atKey_put_other (intL_ne (by omega)), h.at_ j];simp [e]
structure FreshD (all : List Nat) (k : Nat) (D : DataW Value) : Prop where
 sz : Maps.size D <= k
 yes : ∀ j i : Nat, all[j]? = some i -> j < k -> Maps.has D (.int .i64 (2 * (i : Int))) = true /\ ∀ z, D.atKey (.int .i64 (2 * (i : Int))) z = .held (.int .i64 (2 * ((j : Int) + 1)))
 no : ∀ o : Int, (∀ j i : Nat, all[j]? = some i -> j < k -> 2 * (i : Int) ≠ o) -> Maps.has D (.int .i64 o) = false
theorem FreshD.start (all : List Nat) : FreshD all 0 (.map []):=⟨by simp [Maps.size], fun j i _ h => absurd h (by omega), fun _ _ => rfl⟩
theorem FreshD.new {all : List Nat} {D : DataW Value} {w : World} {b k i : Nat} (h : FreshD all k D) (hM : MapAt w 3 b D) (hr : all.Pairwise (· < ·)) (hi : all[k]? = some i) : FreshD all (k + 1) (D.put (.int .i64 (2 * (i : Int))) (.held (.int .i64 (2 * ((k : Int) + 1))))):=by
 refine ⟨?_, ?_, ?_⟩
 ·rw [size_put (World.ownsMap.tidy hM law3)];have:=h.sz;split <;> omega
 ·intro j i2 hj hk;by_cases e : j = k
  ·subst e;rw [hi] at hj;cases hj
   exact ⟨has_put_same hM.isMap (intL_key _) _, fun z => atKey_put_same hM.isMap (intL_key _) _ _⟩
  ·have hlt : j < k:=by omega
   obtain ⟨hj1, hj2⟩:=List.getElem?_eq_some_iff.1 hj;obtain ⟨hi1, hi2⟩:=List.getElem?_eq_some_iff.1 hi;have:=List.pairwise_iff_getElem.1 hr j k hj1 hi1 hlt;have hne : (2 * (i2 : Int)) ≠ 2 * (i : Int):=by omega
   rw [has_put_other (intL_ne hne)];exact ⟨(h.yes j i2 hj hlt).1, fun z => by rw [atKey_put_other (intL_ne hne)]; exact (h.yes j i2 hj hlt).2 z⟩
 ·intro o ho;rw [has_put_other (intL_ne (fun e => ho k i hi (by omega) e.symm))];exact h.no o (fun j i2 hj hk => ho j i2 hj (by omega))
theorem FreshD.get {all : List Nat} {D : DataW Value} (h : FreshD all all.length D) (o : Int) :
  (∃ j : Nat, idxA all o = some j /\ Maps.has D (.int .i64 o) = true /\ ∀ z, D.atKey (.int .i64 o) z = .held (.int .i64 (renF all o))) \/ (idxA all o = none /\ Maps.has D (.int .i64 o) = false /\ renF all o = 2):=by
 cases hx : idxA all o with
 | some j => obtain ⟨i, hi, rfl⟩:=idxA_get hx;have hl:=(List.getElem?_eq_some_iff.1 hi).1;obtain ⟨h1, h2⟩:=h.yes j i hi hl;refine .inl ⟨j, rfl, h1, fun z => ?_⟩;rw [h2 z, renF, hx];simp
 | none => refine .inr ⟨rfl, h.no o ?_, by rw [renF, hx]⟩;intro j i hj _ e;unfold idxA at hx;rw [List.findIdx?_eq_none_iff] at hx;have:=hx i (mem_of_getElem? hj);simp [e] at this
end Go.Proofs.YtgaemfghpibeeaaGreatDoor
namespace Go.Proofs.YtgaemfghpibeeaaGreatDoor
open Go.RowKit
structure Hb where
 at_ : Nat
 n : Nat
 used : Bool
def Hb.off (x y : Hb) : Prop:=x.used = true -> y.used = true -> 0 < x.n -> 0 < y.n -> x.at_ + x.n <= y.at_ \/ y.at_ + y.n <= x.at_
def Hb.cells (x : Hb) : List Value:=[.int .i64 (x.at_ : Int), .int .i64 (x.n : Int), .bool x.used]
def hbCells (L : List Hb) : List Value:=L.flatMap Hb.cells
theorem hbCells_cons (x : Hb) (L : List Hb) : hbCells (x :: L) = .int .i64 (x.at_ : Int) :: .int .i64 (x.n : Int) :: .bool x.used :: hbCells L:=rfl
theorem hbCells_get (L : List Hb) (i : Nat) (x : Hb) (h : L[i]? = some x) :
  (hbCells L)[i * 3]? = some (.int .i64 (x.at_ : Int)) /\ (hbCells L)[i * 3 + 1]? = some (.int .i64 (x.n : Int)) /\ (hbCells L)[i * 3 + 2]? = some (.bool x.used):=by
 induction L generalizing i with
 | nil => simp at h
 | cons y L ih =>
  cases i with
  | zero => simp at h; subst h; simp [hbCells_cons]
  | succ i =>
   simp at h;have:=ih i h;rw [hbCells_cons];have e : (i + 1) * 3 = i * 3 + 1 + 1 + 1:=by omega
   rw [e]
   simpa using this
theorem hbCells_set (L : List Hb) (i : Nat) (y : Hb) (h : i < L.length) :
  (((hbCells L).set (i * 3) (.int .i64 (y.at_ : Int))).set (i * 3 + 1) (.int .i64 (y.n : Int))).set (i * 3 + 2) (.bool y.used) = hbCells (L.set i y):=by
 induction L generalizing i with
 | nil => simp at h
 | cons x L ih =>
  cases i with
  | zero => simp [hbCells_cons]
  | succ i =>
   have e : (i + 1) * 3 = i * 3 + 1 + 1 + 1:=by omega
   rw [hbCells_cons, e];simp only [List.set_cons_succ, hbCells_cons];rw [ih i (by simpa using h)]
theorem hbCells_set_used (L : List Hb) (i : Nat) (x : Hb) (b : Bool) (h : L[i]? = some x) :
  (hbCells L).set (i * 3 + 2) (.bool b) = hbCells (L.set i { x with used:=b }):=by
 induction L generalizing i with
 | nil => simp at h
 | cons y L ih =>
  cases i with
  | zero => simp at h; subst h; simp [hbCells_cons]
  | succ i =>
   have e : (i + 1) * 3 + 2 = i * 3 + 2 + 1 + 1 + 1:=by omega
   rw [hbCells_cons, e];simp only [List.set_cons_succ, hbCells_cons];rw [ih i (by simpa using h)]
theorem hbCells_set_at (L : List Hb) (i : Nat) (x : Hb) (b : Nat) (h : L[i]? = some x) :
  (hbCells L).set (i * 3) (.int .i64 (b : Int)) = hbCells (L.set i { x with at_:=b }):=by
 induction L generalizing i with
 | nil => simp at h
 | cons y L ih =>
  cases i with
  | zero => simp at h; subst h; simp [hbCells_cons]
  | succ i =>
   have e : (i + 1) * 3 = i * 3 + 1 + 1 + 1:=by omega
   rw [hbCells_cons, e];simp only [List.set_cons_succ, hbCells_cons];rw [ih i (by simpa using h)]
def wCells (xs : List Int) : Array Value:=(xs.map (Value.int .u16)).toArray
theorem wCells_get (xs : List Int) (i : Nat) (h : i < xs.length) : (wCells xs)[i]? = some (.int .u16 (xs.getD i 0)):=by simp [wCells, getD_eq_getElem?_getD, h]
theorem wCells_set (xs : List Int) (i : Nat) (v : Int) : (wCells xs).setIfInBounds i (.int .u16 v) = wCells (xs.set i v):=by simp [wCells, List.map_set]
structure HpP where
 h : Nat
 m : Nat
 b : Option Nat
 cap : Nat
def HpP.set (P : HpP) (k : Nat) : Prop:=k = P.h \/ k = P.m \/ P.b = some k
def HpP.row (P : HpP) (n : Nat) : Value:=.slice (P.b.map fun g => ⟨g, 0, none⟩) n P.cap
structure HpAt (w : World) (P : HpP) (mem : List Int) (bs : List Hb) : Prop where
 head : Blk w P.h 116 #[.slice (some ⟨P.m, 0, none⟩) mem.length mem.length, P.row bs.length]
 words : Blk w P.m 25 (wCells mem)
 row : w.ownsRow 0 141 3 (P.row bs.length) bs.length (hbCells bs)
 apart : P.h ≠ P.m /\ P.b ≠ some P.h /\ P.b ≠ some P.m
 vals : ∀ v ∈ mem, 0 <= v /\ v <= 65535
 size : mem.length <= 32768
 count : bs.length <= 1000
 fit : ∀ x ∈ bs, x.at_ + x.n <= mem.length
 disj : ∀ (i j : Nat) (x y : Hb), bs[i]? = some x -> bs[j]? = some y -> i ≠ j -> x.off y
structure HpMem (w : World) (P : HpP) (mem : List Int) (bs : List Hb) : Prop where
 head : Blk w P.h 116 #[.slice (some ⟨P.m, 0, none⟩) mem.length mem.length, P.row bs.length]
 words : Blk w P.m 25 (wCells mem)
 row : w.ownsRow 0 141 3 (P.row bs.length) bs.length (hbCells bs)
 apart : P.h ≠ P.m /\ P.b ≠ some P.h /\ P.b ≠ some P.m
theorem HpAt.base {w : World} {P : HpP} {mem : List Int} {bs : List Hb} (h : HpAt w P mem bs) : HpMem w P mem bs:=⟨h.head, h.words, h.row, h.apart⟩
theorem HpMem.gets {w : World} {P : HpP} {mem : List Int} {bs : List Hb} (h : HpMem w P mem bs) {i : Nat} {x : Hb} (hx : bs[i]? = some x) : ∃ g, P.b = some g:=by
 have hj:=(List.getElem?_eq_some_iff.1 hx).1;rcases h.row.2 with ⟨_, h0⟩ | ⟨g, cap, cur, hv, _⟩
 ·omega
 ·cases hb : P.b with
  | some k => exact ⟨k, rfl⟩
  | none => unfold HpP.row at hv; rw [hb] at hv; simp at hv
theorem HpMem.look {w : World} {P : HpP} {mem : List Int} {bs : List Hb} (h : HpMem w P mem bs) {i : Nat} {x : Hb} (hx : bs[i]? = some x) {g : Nat} (hg : P.b = some g) :
  w.cell? ⟨g, i * 3, none⟩ = some (.int .i64 (x.at_ : Int)) /\ w.cell? ⟨g, i * 3 + 1, none⟩ = some (.int .i64 (x.n : Int)) /\ w.cell? ⟨g, i * 3 + 2, none⟩ = some (.bool x.used):=by
 have hj:=(List.getElem?_eq_some_iff.1 hx).1;have hr:=h.row;unfold HpP.row at hr;rw [hg] at hr;have hc:=fun j hj => World.ownsRow.cellAt hr j hj;obtain ⟨e1, e2, e3⟩:=hbCells_get bs i x hx;refine ⟨?_, ?_, ?_⟩
 ·rw [<- e1]; exact hc _ (by omega)
 ·rw [<- e2]; exact hc _ (by omega)
 ·rw [<- e3]; exact hc _ (by omega)
theorem HpMem.soft {w : World} {P : HpP} {mem : List Int} {bs : List Hb} (h : HpMem w P mem bs) {g : Nat} (hg : P.b = some g) (i : Nat) : w.frozen? ⟨g, i, none⟩ = false:=by have hr:=h.row;unfold HpP.row at hr;rw [hg] at hr;exact World.ownsRow.frozenAt hr i
theorem HpMem.only {S : Nat -> Prop} {w w' : World} {P : HpP} {mem : List Int} {bs : List Hb} (h : HpMem w P mem bs) (ho : Only S w w') (hs : ∀ k, P.set k -> ¬ S k) : HpMem w' P mem bs:=by
 refine ⟨h.head.only ho (hs _ (.inl rfl)), h.words.only ho (hs _ (.inr (.inl rfl))), ?_, h.apart⟩;refine ⟨h.row.1, h.row.2.imp id ?_⟩;rintro ⟨g, cap, cur, hv, h1, h2, h3⟩;have hb : P.b = .some g:=by
  cases hb : P.b with
  | none => unfold HpP.row at hv; rw [hb] at hv; simp at hv
  | some k => unfold HpP.row at hv; rw [hb] at hv;simp at hv;rw [hv.1]
 exact ⟨g, cap, cur, hv, h1, (ho.block g (Array.getElem?_eq_some_iff.1 h2).1 (hs g (.inr (.inr hb)))).trans h2, h3⟩
theorem HpAt.only {S : Nat -> Prop} {w w' : World} {P : HpP} {mem : List Int} {bs : List Hb} (h : HpAt w P mem bs) (ho : Only S w w') (hs : ∀ k, P.set k -> ¬ S k) : HpAt w' P mem bs:=by have h2:=h.base.only ho hs;exact ⟨h2.head, h2.words, h2.row, h.apart, h.vals, h.size, h.count, h.fit, h.disj⟩
theorem HpAt.lt {w : World} {P : HpP} {mem : List Int} {bs : List Hb} (h : HpAt w P mem bs) : ∀ k, P.set k -> k < w.heap.size:=by
 rintro k (rfl | rfl | hk)
 ·exact h.head.lt
 ·exact h.words.lt
 ·have hr:=h.row;unfold HpP.row at hr;rw [hk] at hr;rcases hr.2 with ⟨e, _⟩ | ⟨g, cap, cur, hv, _, h2, _⟩
  ·simp at e
  ·have e : k = g:=by simp at hv; exact hv.1
   rw [e];exact (Array.getElem?_eq_some_iff.1 h2).1
theorem Tryz.info25 : (Tryz.prog.info? 25).map (fun i => (i.zero, i.size, i.bytes)) = some (some (.int .u16 0), 1, 2):=by kernel_rfl
theorem make_words (n : Nat) (hn : n <= 32768) (W : World) : (Instr.makeSlice 113 (.int .i64 (n : Int)) (.int .i64 (n : Int))).run Tryz.prog W = .ok (.slice (some ⟨W.heap.size, 0, none⟩) n n) (W.alloc (.cells (wCells (List.replicate n 0)) 25)):=by
 obtain ⟨i0, hi, hz0, hz1, hz2⟩:=info_parts Tryz.info25;have h:=run_make (P:=Tryz.prog) W 113 25 i0 (.int .u16 0) Tryz.underlying113 hi hz0 .i64 .i64 n n (by omega) (by omega) (by rw [hz2]; omega) (by omega);rw [h, hz1];simp only [Int.toNat_natCast];have e : madeCells (Value.int .u16 0).cells (n * 1) = wCells (List.replicate n 0):=by
  show madeCells #[Value.int .u16 0] (n * 1) = _
  rw [made_one, wCells, List.map_replicate]
 rw [e]
theorem hpNew_ok (N : Nat) (hN : N <= 32768) (w : World) :
  Calls Tryz.prog 16 #[.int .i64 N] w fun e w' => ∃ P : HpP, e = .returned (.tuple #[.pointer (some ⟨P.h, 0, none⟩), .int .i64 0]) /\ HpAt w' P (List.replicate N 0) [] /\ (∀ k, P.set k -> w.heap.size <= k) /\ Below w.heap.size w w':=by
 have hmk:=fun W => make_words N hN W;obtain ⟨c1, hc1⟩ : ∃ c, c = wCells (List.replicate N 0):=⟨_, rfl⟩;rw [<- hc1] at hmk;have HC1:=hid hc1;clear hc1;go_enter Tryz.func16, Tryz.ntmps16;go_wp2;go_ret2;have b1:=(Blk.new w 25 c1).alloc (.cells #[.slice (some ⟨w.heap.size, 0, none⟩) N N, .slice none 0 0] 116);have b2:=Blk.new2 w (.cells c1 25) 116 #[.slice (some ⟨w.heap.size, 0, none⟩) N N, .slice none 0 0];have hb:=((Below.refl w.heap.size w).alloc (Nat.le_refl _) (.cells c1 25)).alloc (by simp) (.cells #[.slice (some ⟨w.heap.size, 0, none⟩) N N, .slice none 0 0] 116);refine ⟨⟨w.heap.size + 1, w.heap.size, none, 0⟩, rfl, ⟨by simpa [HpP.row] using b2, by rw [<- HC1.out]; exact b1, World.ownsRow_nil _ _ _ _, by simp, ?_, by simpa using hN, by simp, by simp, by simp⟩, ?_, hb⟩
 ·intro v hv;have:=(List.mem_replicate.1 hv).2;omega
 ·rintro k (rfl | rfl | hk)
  ·exact Nat.le_succ _
  ·exact Nat.le_refl _
  ·cases hk
theorem hpHas_in (P : HpP) (mem : List Int) (bs : List Hb) (k : Nat) (x : Hb) (w : World) (h : HpMem w P mem bs) (hk : bs[k]? = some x) :
  Calls Tryz.prog 59 #[.pointer (some ⟨P.h, 0, none⟩), .int .i64 k] w fun e w' => e = .returned (.bool x.used) /\ w = w':=by
 obtain ⟨g, hg⟩:=h.gets hk;obtain ⟨d0, d1, d2⟩:=h.look hk hg;have c1:=h.head.cell 1;simp only [qTa, qTb, qTc, HpP.row, hg, Option.map_some] at c1;have hlt:=(List.getElem?_eq_some_iff.1 hk).1;clear hk;go_enter Tryz.func59, Tryz.ntmps59;go_wp2;go_ret;exact ⟨rfl, rfl⟩
theorem hpSize_in (P : HpP) (mem : List Int) (bs : List Hb) (k : Nat) (x : Hb) (w : World) (h : HpMem w P mem bs) (hk : bs[k]? = some x) (hu : x.used = true) :
  Calls Tryz.prog 27 #[.pointer (some ⟨P.h, 0, none⟩), .int .i64 k] w fun e w' => e = .returned (.int .i64 (x.n : Int)) /\ w = w':=by
 obtain ⟨g, hg⟩:=h.gets hk;obtain ⟨d0, d1, d2⟩:=h.look hk hg;have c1:=h.head.cell 1;simp only [qTa, qTb, qTc, HpP.row, hg, Option.map_some] at c1;have hlt:=(List.getElem?_eq_some_iff.1 hk).1;have K:=hid hk;have U:=hid hu;clear hk hu;go_enter Tryz.func27, Tryz.ntmps27;go_wp2_with fail;refine (hpHas_in _ _ _ _ _ _ h K.out).mono ?_;rintro e w2 ⟨rfl, rfl⟩;rw [U.out];go_wp2;go_ret;exact ⟨rfl, rfl⟩
theorem hpRead_in (P : HpP) (mem : List Int) (bs : List Hb) (k i : Nat) (x : Hb) (w : World) (h : HpAt w P mem bs) (hk : bs[k]? = some x) (hu : x.used = true) (hi : i < x.n) :
  Calls Tryz.prog 30 #[.pointer (some ⟨P.h, 0, none⟩), .int .i64 k, .int .i64 i] w fun e w' => e = .returned (.tuple #[.int .i64 (mem.getD (x.at_ + i) 0), .int .i64 0]) /\ ∃ m, w' = w.drewN m:=by
 obtain ⟨g, hg⟩:=h.base.gets hk;obtain ⟨d0, d1, d2⟩:=h.base.look hk hg;have c0:=h.head.cell 0;have c1:=h.head.cell 1;simp only [qTa, qTb, qTc, HpP.row, hg, Option.map_some] at c0 c1;have hlt:=(List.getElem?_eq_some_iff.1 hk).1;have hf:=h.fit x (mem_of_getElem? hk);have hs:=h.size;have hc:=h.count;have hb:=h.base;have e0:=(h.words.cell (x.at_ + i)).trans (wCells_get mem _ (by omega));have K:=hid hk;have U:=hid hu;have hv : 0 <= mem.getD (x.at_ + i) 0 /\ mem.getD (x.at_ + i) 0 <= 65535:=by rw [getD_eq_getElem?_getD, getElem?_eq_getElem (by omega)];exact h.vals _ (List.getElem_mem _)
 obtain ⟨v, hvv⟩ : ∃ v, v = mem.getD (x.at_ + i) 0:=⟨_, rfl⟩;rw [<- hvv] at e0 hv ⊢;obtain ⟨v0, v1⟩:=hv;obtain ⟨a, ha⟩ : ∃ a, a = x.at_:=⟨_, rfl⟩;obtain ⟨n, hn⟩ : ∃ n, n = x.n:=⟨_, rfl⟩;obtain ⟨L, hL⟩ : ∃ L, L = bs.length:=⟨_, rfl⟩;obtain ⟨M, hM⟩ : ∃ M, M = mem.length:=⟨_, rfl⟩;rw [<- ha] at d0 hf e0;rw [<- hn] at d1 hf hi;rw [<- hL] at c1 hlt hc;rw [<- hM] at c0 hf hs;clear hk hu h hvv ha hn hL hM;go_enter Tryz.func30, Tryz.ntmps30;go_wp2_with fail;refine (hpHas_in _ _ _ _ _ _ hb K.out).mono ?_;rintro e w2 ⟨rfl, rfl⟩;rw [U.out];go_wp2;go_quiet (fail)
 go_wp2;go_ret2;exact ⟨rfl, _, rfl⟩
structure Mid (a b : Nat) (ks ks' : List Nat) : Prop where
 len : ks'.length = ks.length
 perm : ks'.Perm ks
 out : ∀ i, i < a \/ b <= i -> ks'[i]? = ks[i]?
 into : ∀ i, a <= i -> i < b -> ∃ j, a <= j /\ j < b /\ ks'[i]? = ks[j]?
theorem Mid.refl (a b : Nat) (ks : List Nat) : Mid a b ks ks:=⟨rfl, .refl _, fun _ _ => rfl, fun i h1 h2 => ⟨i, h1, h2, rfl⟩⟩
theorem Mid.trans {a b : Nat} {k1 k2 k3 : List Nat} (h : Mid a b k1 k2) (h2 : Mid a b k2 k3) : Mid a b k1 k3 :=
 ⟨h2.len.trans h.len, h2.perm.trans h.perm, fun i hi => (h2.out i hi).trans (h.out i hi), fun i h3 h4 => by obtain ⟨j, h5, h6, h7⟩:=h2.into i h3 h4;obtain ⟨l, h8, h9, h10⟩:=h.into j h5 h6;exact ⟨l, h8, h9, h7.trans h10⟩⟩
theorem Mid.mono {a b a' b' : Nat} {k1 k2 : List Nat} (h : Mid a b k1 k2) (h1 : a' <= a) (h2 : b <= b') : Mid a' b' k1 k2 :=
 ⟨h.len, h.perm, fun i hi => h.out i (by omega), fun i h3 h4 => by
  by_cases hi : i < a \/ b <= i
  ·exact ⟨i, h3, h4, h.out i hi⟩
  ·obtain ⟨j, h5, h6, h7⟩:=h.into i (by omega) (by omega);exact ⟨j, by omega, by omega, h7⟩⟩
def swp (ks : List Nat) (i j : Nat) : List Nat:=(ks.set i (ks.getD j 0)).set j (ks.getD i 0)
theorem swp_get (ks : List Nat) (i j : Nat) (hi : i < ks.length) (hj : j < ks.length) (k : Nat) : (swp ks i j)[k]? = if k = j then ks[i]? else if k = i then ks[j]? else ks[k]?:=by
 unfold swp;rw [List.getElem?_set, List.getElem?_set];simp only [getD_eq_getElem?_getD, getElem?_eq_getElem hi, getElem?_eq_getElem hj, Option.getD_some, length_set];by_cases h1 : k = j
 ·subst h1; simp [hj]
 ·by_cases h2 : k = i
  ·subst h2; simp [h1, Ne.symm h1, hi]
  ·simp [h1, h2, Ne.symm h1, Ne.symm h2]
theorem swp_len (ks : List Nat) (i j : Nat) : (swp ks i j).length = ks.length:=by simp [swp]
theorem swp_perm (ks : List Nat) (i j : Nat) (hi : i < ks.length) (hj : j < ks.length) : (swp ks i j).Perm ks:=by unfold swp;simp only [getD_eq_getElem?_getD, getElem?_eq_getElem hi, getElem?_eq_getElem hj, Option.getD_some];exact List.set_set_perm hi hj
theorem Mid.swp {a b i j : Nat} {ks : List Nat} (hi : a <= i /\ i < b) (hj : a <= j /\ j < b) (hb : b <= ks.length) : Mid a b ks (swp ks i j) :=
 ⟨swp_len _ _ _, swp_perm _ _ _ (by omega) (by omega), fun k hk => by
  rw [swp_get _ _ _ (by omega) (by omega), if_neg (by omega), if_neg (by omega)], fun k h1 h2 => by
  rw [swp_get _ _ _ (by omega) (by omega)];by_cases e : k = j
  ·exact ⟨i, hi.1, hi.2, by rw [if_pos e]⟩
  ·by_cases e2 : k = i
   ·exact ⟨j, hj.1, hj.2, by rw [if_neg e, if_pos e2]⟩
   ·exact ⟨k, h1, h2, by rw [if_neg e, if_neg e2]⟩⟩
def Asc (κ : Nat -> Nat) (a b : Nat) (ks : List Nat) : Prop:=∀ p q x y, a <= p -> p < q -> q < b -> ks[p]? = some x -> ks[q]? = some y -> κ x <= κ y
theorem Asc.of_eq {κ : Nat -> Nat} {a b : Nat} {ks ks' : List Nat} (h : Asc κ a b ks) (he : ∀ i, a <= i -> i < b -> ks'[i]? = ks[i]?) : Asc κ a b ks':=by intro p q x y h1 h2 h3 h4 h5;rw [he p (by omega) (by omega)] at h4;rw [he q (by omega) (by omega)] at h5;exact h p q x y h1 h2 h3 h4 h5
theorem Asc.sub {κ : Nat -> Nat} {a b a' b' : Nat} {ks : List Nat} (h : Asc κ a b ks) (h1 : a <= a') (h2 : b' <= b) : Asc κ a' b' ks :=
 fun p q x y h3 h4 h5 => h p q x y (by omega) h4 (by omega)
theorem Asc.small {κ : Nat -> Nat} {a b : Nat} {ks : List Nat} (h : b <= a + 1) : Asc κ a b ks:=fun p q x y h1 h2 h3 => by omega
theorem Asc.join {κ : Nat -> Nat} {a m b : Nat} {ks : List Nat} (h1 : Asc κ a m ks) (h2 : Asc κ m b ks) (hlo : ∀ p q x y, a <= p -> p < m -> m <= q -> q < b -> ks[p]? = some x -> ks[q]? = some y -> κ x <= κ y) : Asc κ a b ks:=by
 intro p q x y h3 h4 h5 h6 h7;by_cases hp : q < m
 ·exact h1 p q x y h3 h4 hp h6 h7
 ·by_cases hq : m <= p
  ·exact h2 p q x y hq h4 h5 h6 h7
  ·exact hlo p q x y h3 (by omega) (by omega) h5 h6 h7
def Ins (κ : Nat -> Nat) (a i j : Nat) (ks : List Nat) : Prop:=∀ p q x y, a <= p -> p < q -> q <= i -> q ≠ j -> ks[p]? = some x -> ks[q]? = some y -> κ x <= κ y
theorem Ins.start {κ : Nat -> Nat} {a i : Nat} {ks : List Nat} (h : Asc κ a i ks) : Ins κ a i i ks:=fun p q x y h1 h2 h3 h4 => h p q x y h1 h2 (by omega)
theorem Ins.done {κ : Nat -> Nat} {a i : Nat} {ks : List Nat} (h : Ins κ a i a ks) : Asc κ a (i + 1) ks:=fun p q x y h1 h2 h3 => h p q x y h1 h2 (by omega) (by omega)
theorem Ins.stop {κ : Nat -> Nat} {a i j : Nat} {ks : List Nat} (h : Ins κ a i j ks) (hj : a < j) (hji : j <= i) {x y : Nat} (hx : ks[j - 1]? = some x) (hy : ks[j]? = some y) (hxy : κ x <= κ y) : Asc κ a (i + 1) ks:=by
 intro p q u v h1 h2 h3 h4 h5;by_cases e : q = j
 ·subst e;rw [hy] at h5; cases h5;by_cases e2 : p = q - 1
  ·subst e2; rw [hx] at h4; cases h4; exact hxy
  ·exact Nat.le_trans (h p (q - 1) u x h1 (by omega) (by omega) (by omega) h4 hx) hxy
 ·exact h p q u v h1 h2 (by omega) e h4 h5
theorem Ins.step {κ : Nat -> Nat} {a i j : Nat} {ks : List Nat} (h : Ins κ a i j ks) (hj : a < j) (hji : j <= i) (hl : i < ks.length) {x y : Nat} (hx : ks[j - 1]? = some x) (hy : ks[j]? = some y) (hxy : κ y < κ x) : Ins κ a i (j - 1) (swp ks j (j - 1)):=by
 intro p q u v h1 h2 h3 h4 h5 h6;rw [swp_get _ _ _ (by omega) (by omega)] at h5 h6;have g1:=fun u' (h1 : a <= p) (h2 : p < j - 1) => h p (j - 1) u' x h1 h2 (by omega) (by omega);rw [if_neg h4] at h6;by_cases eq : q = j
 ·rw [if_pos eq, hx] at h6; cases h6;by_cases ep : p = j - 1
  ·rw [if_pos ep, hy] at h5; cases h5; omega
  ·rw [if_neg ep, if_neg (by omega)] at h5;exact g1 _ h1 (by omega) h5 hx
 ·rw [if_neg eq] at h6;by_cases ep : p = j - 1
  ·rw [if_pos ep, hy] at h5; cases h5;by_cases e3 : q < j
   ·omega
   ·exact h j q _ _ (by omega) (by omega) h3 eq hy h6
  ·rw [if_neg ep] at h5;by_cases ep2 : p = j
   ·rw [if_pos ep2, hx] at h5; cases h5;exact h (j - 1) q _ _ (by omega) (by omega) h3 eq hx h6
   ·rw [if_neg ep2] at h5;exact h p q u v h1 h2 h3 eq h5 h6
def SwR (a b n : Nat) (ks ks' : List Nat) : Prop:=∀ k, ks'[k]? = if a <= k /\ k < a + n then ks[k + (b - a)]? else if b <= k /\ k < b + n then ks[k - (b - a)]? else ks[k]?
theorem SwR.zero (a b : Nat) (ks : List Nat) : SwR a b 0 ks ks:=by intro k;rw [if_neg (by omega), if_neg (by omega)]
theorem SwR.step {a b n : Nat} {ks ks' : List Nat} (h : SwR a b n ks ks') (hab : a + n < b) (hb : b + n < ks'.length) : SwR a b (n + 1) ks (swp ks' (a + n) (b + n)):=by
 intro k;rw [swp_get _ _ _ (by omega) hb];have e1 : a + n + (b - a) = b + n:=by omega
 by_cases h1 : k = b + n
 ·subst h1;rw [if_pos rfl, h, if_neg (by omega), if_neg (by omega), if_neg (by omega), if_pos (by omega)]
  congr 1; omega
 ·rw [if_neg h1];by_cases h2 : k = a + n
  ·subst h2;rw [if_pos rfl, h, if_neg (by omega), if_neg (by omega), if_pos (by omega), e1]
  ·rw [if_neg h2, h];by_cases h3 : a <= k /\ k < a + n
   ·rw [if_pos h3, if_pos (by omega)]
   ·rw [if_neg h3, if_neg (c:=a <= k /\ k < a + (n + 1)) (by omega)];by_cases h4 : b <= k /\ k < b + n
    ·rw [if_pos h4, if_pos (by omega)]
    ·rw [if_neg h4, if_neg (by omega)]
def Rot (a m b : Nat) (ks ks' : List Nat) : Prop:=∀ k, ks'[k]? = if k < a \/ b <= k then ks[k]? else if k < a + (b - m) then ks[k + (m - a)]? else ks[k - (b - m)]?
def RotI (m i j : Nat) (T : Nat -> Option Nat) (ks : List Nat) : Prop:=∀ k, T k = if k < m - i \/ m + j <= k then ks[k]? else if k < m - i + j then ks[k + i]? else ks[k - j]?
theorem RotI.left {m i j : Nat} {T : Nat -> Option Nat} {ks ks' : List Nat} (h : RotI m i j T ks) (hij : j < i) (him : i <= m) (hs : SwR (m - i) m j ks ks') : RotI m (i - j) j T ks':=by
 intro k;rw [h k];by_cases h1 : k < m - i \/ m + j <= k
 ·rw [if_pos h1, if_pos (by omega), hs, if_neg (by omega), if_neg (by omega)]
 ·rw [if_neg h1];by_cases h2 : k < m - i + j
  ·rw [if_pos h2, if_pos (by omega), hs, if_pos (by omega)]
   congr 1; omega
  ·rw [if_neg h2, if_neg (by omega)];by_cases h3 : k < m - (i - j) + j
   ·rw [if_pos h3, hs];by_cases h4 : m <= k + (i - j)
    ·rw [if_neg (by omega), if_pos (by omega)]
     congr 1; omega
    ·omega
   ·rw [if_neg h3, hs];rw [if_neg (by omega), if_neg (by omega)]
theorem RotI.right {m i j : Nat} {T : Nat -> Option Nat} {ks ks' : List Nat} (h : RotI m i j T ks) (hij : i < j) (him : i <= m) (hs : SwR (m - i) (m + j - i) i ks ks') : RotI m i (j - i) T ks':=by
 intro k;rw [h k];by_cases h1 : k < m - i \/ m + j <= k
 ·rw [if_pos h1, if_pos (by omega), hs, if_neg (by omega), if_neg (by omega)]
 ·rw [if_neg h1];by_cases h2 : k < m - i + j
  ·rw [if_pos h2];by_cases h3 : k < m - i + (j - i)
   ·rw [if_neg (by omega), if_pos h3, hs, if_neg (by omega), if_neg (by omega)]
   ·rw [if_neg (by omega), if_neg h3, hs, if_pos (by omega)]
    congr 1; omega
  ·rw [if_neg h2, if_pos (by omega), hs, if_neg (by omega), if_pos (by omega)]
   congr 1; omega
theorem RotI.end_ {m i : Nat} {T : Nat -> Option Nat} {ks ks' : List Nat} (h : RotI m i i T ks) (him : i <= m) (hs : SwR (m - i) m i ks ks') : ∀ k, ks'[k]? = T k:=by
 intro k;rw [h k, hs];by_cases h1 : k < m - i \/ m + i <= k
 ·rw [if_pos h1, if_neg (by omega), if_neg (by omega)]
 ·rw [if_neg h1];by_cases h2 : k < m - i + i
  ·rw [if_pos h2, if_pos (by omega)]
   congr 1; omega
  ·rw [if_neg h2, if_neg (by omega), if_pos (by omega)]
   congr 1; omega
theorem RotI.begin_ {a m b : Nat} (ks : List Nat) (h1 : a <= m) (h2 : m <= b) : RotI m (m - a) (b - m) (fun k => if k < a \/ b <= k then ks[k]? else if k < a + (b - m) then ks[k + (m - a)]? else ks[k - (b - m)]?) ks:=by
 intro k;show (if k < a \/ b <= k then ks[k]? else if k < a + (b - m) then ks[k + (m - a)]? else ks[k - (b - m)]?) = _
 have e1 : m - (m - a) = a:=by omega
 have e2 : m + (b - m) = b:=by omega
 rw [e1, e2]
theorem getD_of {ks : List Nat} {p x : Nat} (h : ks[p]? = some x) : ks.getD p 0 = x:=by rw [getD_eq_getElem?_getD, h]; rfl
theorem get_of {ks : List Nat} {p : Nat} (h : p < ks.length) : ks[p]? = some (ks.getD p 0):=by rw [getD_eq_getElem?_getD, getElem?_eq_getElem h]; rfl
theorem Asc.le {κ : Nat -> Nat} {a b : Nat} {ks : List Nat} (h : Asc κ a b ks) (hb : b <= ks.length) {p q : Nat} (h1 : a <= p) (h2 : p <= q) (h3 : q < b) : κ (ks.getD p 0) <= κ (ks.getD q 0):=by
 by_cases e : p = q
 ·subst e; exact Nat.le_refl _
 ·exact h p q _ _ h1 (by omega) h3 (get_of (by omega)) (get_of (by omega))
def Shl (a k : Nat) (ks ks' : List Nat) : Prop:=∀ t, ks'[t]? = if a <= t /\ t < k then ks[t + 1]? else if t = k then ks[a]? else ks[t]?
theorem Shl.zero (a : Nat) (ks : List Nat) : Shl a a ks ks:=by
 intro t;rw [if_neg (by omega)];by_cases h : t = a
 ·rw [if_pos h, h]
 ·rw [if_neg h]
theorem Shl.step {a k : Nat} {ks ks' : List Nat} (h : Shl a k ks ks') (ha : a <= k) (hk : k + 1 < ks'.length) : Shl a (k + 1) ks (swp ks' k (k + 1)):=by
 intro t;rw [swp_get _ _ _ (by omega) hk];by_cases h1 : t = k + 1
 ·rw [if_pos h1, h, if_neg (by omega), if_pos rfl, if_neg (by omega), if_pos h1]
 ·rw [if_neg h1];by_cases h2 : t = k
  ·subst h2;rw [if_pos rfl, h, if_neg (by omega), if_neg (by omega), if_pos (by omega)]
  ·rw [if_neg h2, h];by_cases h3 : a <= t /\ t < k
   ·rw [if_pos h3, if_pos (by omega)]
   ·rw [if_neg h3, if_neg h2, if_neg (by omega), if_neg h1]
def Shr (m k : Nat) (ks ks' : List Nat) : Prop:=∀ t, ks'[t]? = if k < t /\ t <= m then ks[t - 1]? else if t = k then ks[m]? else ks[t]?
theorem Shr.zero (m : Nat) (ks : List Nat) : Shr m m ks ks:=by
 intro t;rw [if_neg (by omega)];by_cases h : t = m
 ·rw [if_pos h, h]
 ·rw [if_neg h]
theorem Shr.step {m k : Nat} {ks ks' : List Nat} (h : Shr m k ks ks') (hm : k <= m) (h0 : 0 < k) (hl : m < ks'.length) : Shr m (k - 1) ks (swp ks' k (k - 1)):=by
 intro t;rw [swp_get _ _ _ (by omega) (by omega)];by_cases h1 : t = k - 1
 ·rw [if_pos h1, h, if_neg (by omega), if_pos rfl, if_neg (by omega), if_pos h1]
 ·rw [if_neg h1];by_cases h2 : t = k
  ·subst h2;rw [if_pos rfl, h, if_neg (by omega), if_neg (by omega), if_pos (by omega)]
  ·rw [if_neg h2, h];by_cases h3 : k < t /\ t <= m
   ·rw [if_pos h3, if_pos (by omega)]
   ·rw [if_neg h3, if_neg h2, if_neg (by omega), if_neg h1]
theorem asc_left {κ : Nat -> Nat} {a b i : Nat} {ks ks' : List Nat} (h : Asc κ (a + 1) b ks) (h1 : a + 1 <= i) (h2 : i <= b) (hl : b <= ks.length)
  (hlo : i = a + 1 \/ κ (ks.getD (i - 1) 0) < κ (ks.getD a 0)) (hhi : i = b \/ κ (ks.getD a 0) <= κ (ks.getD i 0)) (hs : Shl a (i - 1) ks ks') : Asc κ a b ks':=by
 intro p q x y h3 h4 h5 h6 h7;rw [hs] at h6 h7;by_cases p1 : p < i - 1
 ·rw [if_pos (by omega)] at h6;by_cases q1 : q < i - 1
  ·rw [if_pos (by omega)] at h7;exact h _ _ x y (by omega) (by omega) (by omega) h6 h7
  ·rw [if_neg (by omega)] at h7;by_cases q2 : q = i - 1
   ·rw [if_pos q2] at h7;have e1:=getD_of h6;have e2:=getD_of h7;have:=h.le hl (p:=p + 1) (q:=i - 1) (by omega) (by omega) (by omega);rw [e1] at this;rw [e2] at hlo;omega
   ·rw [if_neg q2] at h7;exact h _ _ x y (by omega) (by omega) (by omega) h6 h7
 ·rw [if_neg (by omega)] at h6;rw [if_neg (by omega), if_neg (by omega)] at h7;by_cases p2 : p = i - 1
  ·rw [if_pos p2] at h6;have e1:=getD_of h6;have e2:=getD_of h7;have:=h.le hl (p:=i) (q:=q) (by omega) (by omega) (by omega);rw [e2] at this;rw [e1] at hhi;omega
  ·rw [if_neg p2] at h6;exact h _ _ x y (by omega) (by omega) (by omega) h6 h7
theorem asc_right {κ : Nat -> Nat} {a m i : Nat} {ks ks' : List Nat} (h : Asc κ a m ks) (h1 : a <= i) (h2 : i <= m) (hl : m < ks.length)
  (hlo : i = a \/ κ (ks.getD (i - 1) 0) <= κ (ks.getD m 0)) (hhi : i = m \/ κ (ks.getD m 0) < κ (ks.getD i 0)) (hs : Shr m i ks ks') : Asc κ a (m + 1) ks':=by
 intro p q x y h3 h4 h5 h6 h7;rw [hs] at h6 h7;by_cases p1 : i < p
 ·rw [if_pos (by omega)] at h6 h7;exact h _ _ x y (by omega) (by omega) (by omega) h6 h7
 ·rw [if_neg (by omega)] at h6;by_cases p2 : p = i
  ·rw [if_pos p2] at h6;rw [if_pos (by omega)] at h7;have e1:=getD_of h6;have e2:=getD_of h7;have:=h.le (by omega) (p:=i) (q:=q - 1) (by omega) (by omega) (by omega);rw [e2] at this;rw [e1] at hhi;omega
  ·rw [if_neg p2] at h6;by_cases q1 : i < q
   ·rw [if_pos (by omega)] at h7;exact h _ _ x y (by omega) (by omega) (by omega) h6 h7
   ·rw [if_neg (by omega)] at h7;by_cases q2 : q = i
    ·rw [if_pos q2] at h7;have e1:=getD_of h6;have e2:=getD_of h7;have:=h.le (by omega) (p:=p) (q:=i - 1) (by omega) (by omega) (by omega);rw [e1] at this;rw [e2] at hlo;omega
    ·rw [if_neg q2] at h7;exact h _ _ x y (by omega) (by omega) (by omega) h6 h7
def Low (κ : Nat -> Nat) (a m b : Nat) (ks : List Nat) : Prop:=∀ p q x y, a <= p -> p < m -> m <= q -> q < b -> ks[p]? = some x -> ks[q]? = some y -> κ x <= κ y
theorem Low.left {κ : Nat -> Nat} {a m b : Nat} {ks ks' : List Nat} (h : Low κ a m b ks) (hm : Mid a m ks ks') : Low κ a m b ks':=by intro p q x y h1 h2 h3 h4 h5 h6;obtain ⟨j, h7, h8, h9⟩:=hm.into p h1 h2;rw [hm.out q (by omega)] at h6;exact h j q x y h7 h8 h3 h4 (h9.symm.trans h5) h6
theorem Low.right {κ : Nat -> Nat} {a m b : Nat} {ks ks' : List Nat} (h : Low κ a m b ks) (hm : Mid m b ks ks') : Low κ a m b ks':=by intro p q x y h1 h2 h3 h4 h5 h6;obtain ⟨j, h7, h8, h9⟩:=hm.into q h3 h4;rw [hm.out p (by omega)] at h5;exact h p j x y h1 h2 h7 h8 h5 (h9.symm.trans h6)
theorem Low.asc {κ : Nat -> Nat} {a m b : Nat} {ks : List Nat} (h : Low κ a m b ks) (h1 : Asc κ a m ks) (h2 : Asc κ m b ks) : Asc κ a b ks:=h1.join h2 h
structure Cut4 (κ : Nat -> Nat) (a s mid e b : Nat) (ks : List Nat) : Prop where
 a1 : Asc κ a s ks
 b1 : Asc κ s mid ks
 a2 : Asc κ mid e ks
 b2 : Asc κ e b ks
 low : Low κ a mid b ks
theorem cut4 {κ : Nat -> Nat} {a s m e b mid : Nat} {ks ks' : List Nat} (hA : Asc κ a m ks) (hB : Asc κ m b ks) (h1 : a <= s) (h2 : s <= m) (h3 : m <= e) (h4 : e <= b) (hl : b <= ks.length) (hmid : mid = s + (e - m))
  (hlo : s = a \/ e = b \/ κ (ks.getD (s - 1) 0) <= κ (ks.getD e 0)) (hhi : s = m \/ e = m \/ κ (ks.getD (e - 1) 0) < κ (ks.getD s 0)) (hR : Rot s m e ks ks') : Cut4 κ a s mid e b ks':=by
 refine ⟨?_, ?_, ?_, ?_, ?_⟩
 ·intro p q x y h5 h6 h7 h8 h9;rw [hR, if_pos (by omega)] at h8 h9;exact hA _ _ x y (by omega) (by omega) (by omega) h8 h9
 ·intro p q x y h5 h6 h7 h8 h9;rw [hR, if_neg (by omega), if_pos (by omega)] at h8 h9;exact hB _ _ x y (by omega) (by omega) (by omega) h8 h9
 ·intro p q x y h5 h6 h7 h8 h9;rw [hR, if_neg (by omega), if_neg (by omega)] at h8 h9;exact hA _ _ x y (by omega) (by omega) (by omega) h8 h9
 ·intro p q x y h5 h6 h7 h8 h9;rw [hR, if_pos (by omega)] at h8 h9;exact hB _ _ x y (by omega) (by omega) (by omega) h8 h9
 ·intro p q x y h5 h6 h7 h8 h9 h10;rw [hR] at h9 h10;by_cases p1 : p < s
  ·rw [if_pos (by omega)] at h9;by_cases q1 : q < e
   ·rw [if_neg (by omega), if_neg (by omega)] at h10;exact hA _ _ x y (by omega) (by omega) (by omega) h9 h10
   ·rw [if_pos (by omega)] at h10;have e1:=getD_of h9;have e2:=getD_of h10;have k1:=hA.le (by omega) (p:=p) (q:=s - 1) (by omega) (by omega) (by omega);have k2:=hB.le hl (p:=e) (q:=q) (by omega) (by omega) (by omega);rw [e1] at k1;rw [e2] at k2;omega
  ·rw [if_neg (by omega), if_pos (by omega)] at h9;by_cases q1 : q < e
   ·rw [if_neg (by omega), if_neg (by omega)] at h10;have e1:=getD_of h9;have e2:=getD_of h10;have k1:=hB.le hl (p:=p + (m - s)) (q:=e - 1) (by omega) (by omega) (by omega);have k2:=hA.le (by omega) (p:=s) (q:=q - (e - m)) (by omega) (by omega) (by omega);rw [e1] at k1;rw [e2] at k2;omega
   ·rw [if_pos (by omega)] at h10;exact hB _ _ x y (by omega) (by omega) (by omega) h9 h10
theorem Rot.none {s m e : Nat} (ks : List Nat) (h : s = m \/ m = e) (h1 : s <= m) (h2 : m <= e) : Rot s m e ks ks:=by
 intro k;by_cases h3 : k < s \/ e <= k
 ·rw [if_pos h3]
 ·rw [if_neg h3];by_cases h4 : k < s + (e - m)
  ·rw [if_pos h4]; congr 1; omega
  ·rw [if_neg h4]; congr 1; omega
def plc (bs : List Hb) (k : Nat) : Nat:=match bs[k]? with
 | some x => x.at_
 | none => 0
def zs (ks : List Nat) : List Value:=ks.map fun (k : Nat) => .int .i64 (k : Int)
structure SoAt (w : World) (P : HpP) (mem : List Int) (bs : List Hb) (d cap : Nat) (ks : List Nat) : Prop where
 heap : HpMem w P mem bs
 row : w.ownsRow 0 3 1 (.slice (some ⟨d, 0, none⟩) ks.length cap) ks.length (zs ks)
 valid : ∀ k ∈ ks, k < bs.length
 off : ¬ P.set d
 small : ∀ x ∈ bs, x.at_ <= 32768
 count : ks.length <= 1000
theorem SoAt.cell {w : World} {P : HpP} {mem : List Int} {bs : List Hb} {d cap : Nat} {ks : List Nat} (h : SoAt w P mem bs d cap ks) (t : Nat) (ht : t < ks.length) : w.cell? ⟨d, t, none⟩ = some (.int .i64 (ks.getD t 0 : Nat)):=by rw [World.ownsRow.cellAt h.row t (by omega), zs, List.getElem?_map, get_of ht];rfl
theorem SoAt.soft {w : World} {P : HpP} {mem : List Int} {bs : List Hb} {d cap : Nat} {ks : List Nat} (h : SoAt w P mem bs d cap ks) (t : Nat) : w.frozen? ⟨d, t, none⟩ = false:=World.ownsRow.frozenAt h.row t
theorem SoAt.lt {w : World} {P : HpP} {mem : List Int} {bs : List Hb} {d cap : Nat} {ks : List Nat} (h : SoAt w P mem bs d cap ks) (t : Nat) (ht : t < ks.length) : ks.getD t 0 < bs.length:=by have:=get_of ht;exact h.valid _ (mem_of_getElem? this)
theorem SoAt.drewN {w : World} {P : HpP} {mem : List Int} {bs : List Hb} {d cap : Nat} {ks : List Nat} (h : SoAt w P mem bs d cap ks) (n : Nat) : SoAt (w.drewN n) P mem bs d cap ks :=
 ⟨h.heap.only ((Only.refl (fun _ => False) w).drewN n) (fun _ _ h => h), h.row, h.valid, h.off, h.small, h.count⟩
theorem zs_set (ks : List Nat) (i v : Nat) : (zs ks).set i (.int .i64 (v : Int)) = zs (ks.set i v):=by simp [zs]
theorem SoAt.swp {w : World} {P : HpP} {mem : List Int} {bs : List Hb} {d cap : Nat} {ks : List Nat} (h : SoAt w P mem bs d cap ks) (i j : Nat) (hi : i < ks.length) (hj : j < ks.length) :
  SoAt ((w.setCell ⟨d, i, none⟩ (.int .i64 (ks.getD j 0 : Nat))).setCell ⟨d, j, none⟩ (.int .i64 (ks.getD i 0 : Nat))) P mem bs d cap (swp ks i j):=by
 refine ⟨?_, ?_, ?_, h.off, h.small, ?_⟩
 ·refine h.heap.only (S:=fun g => g = d) (((Only.refl (fun g => g = d) w).setCell (p:=⟨d, i, none⟩) (.inl rfl) _).setCell (p:=⟨d, j, none⟩) (.inl rfl) _) ?_;intro k hk e;exact h.off (e ▸ hk)
 ·have h1:=(World.ownsRow.stored h.row i (.int .i64 (ks.getD j 0 : Nat))).1;have h2:=(World.ownsRow.stored h1 j (.int .i64 (ks.getD i 0 : Nat))).1;rw [zs_set, zs_set] at h2;rw [swp_len];exact h2
 ·intro k hk;have:=(swp_perm ks i j hi hj).mem_iff.1 hk;exact h.valid k this
 ·rw [swp_len]; exact h.count
theorem byPlace_any (P : HpP) (mem : List Int) (bs : List Hb) (x y : Nat) (w : World) (h : HpMem w P mem bs) (hs : ∀ x ∈ bs, x.at_ <= 32768) (hx : x < bs.length) (hy : y < bs.length) :
  Calls Tryz.prog 225 #[.pointer (some ⟨P.h, 0, none⟩), .int .i64 x, .int .i64 y] w fun e w' => e = .returned (.int .i64 ((plc bs x : Int) - (plc bs y : Int))) /\ ∃ m, w' = w.drewN m:=by
 have gx:=getElem?_eq_getElem hx;have gy:=getElem?_eq_getElem hy;have px : plc bs x = bs[x].at_:=by unfold plc; rw [gx]
 have py : plc bs y = bs[y].at_:=by unfold plc; rw [gy]
 have bx:=hs _ (List.getElem_mem hx);have by_:=hs _ (List.getElem_mem hy);obtain ⟨g, hg⟩:=h.gets gx;obtain ⟨d0, _, _⟩:=h.look gx hg;obtain ⟨e0, _, _⟩:=h.look gy hg;have c1:=h.head.cell 1;simp only [qTa, qTb, qTc, HpP.row, hg, Option.map_some] at c1;rw [<- px] at d0 bx;rw [<- py] at e0 by_;obtain ⟨u, hu⟩ : ∃ u, u = plc bs x:=⟨_, rfl⟩;obtain ⟨v, hv⟩ : ∃ u, u = plc bs y:=⟨_, rfl⟩;obtain ⟨L, hL⟩ : ∃ L, L = bs.length:=⟨_, rfl⟩;rw [<- hu] at d0 bx ⊢;rw [<- hv] at e0 by_ ⊢;rw [<- hL] at c1 hx hy;clear gx gy px py hu hv hs h hL;go_enter Tryz.func225, Tryz.ntmps225;go_wp2;go_quiet (fail)
 go_wp2;go_ret;exact ⟨rfl, _, rfl⟩
theorem swr_any (P : HpP) (mem : List Int) (bs : List Hb) (d cap a b n : Nat) (ks : List Nat) (V : Value) (w : World) (h : SoAt w P mem bs d cap ks) (hab : a + n <= b) (hb : b + n <= ks.length) :
  Calls Tryz.prog 230 #[.slice (some ⟨d, 0, none⟩) ks.length cap, .int .i64 a, .int .i64 b, .int .i64 n, V] w fun e w' => e = .returned (.tuple #[]) /\ ∃ ks', SoAt w' P mem bs d cap ks' /\ SwR a b n ks ks' /\ Mid a (b + n) ks ks' /\ Only (fun g => g = d) w w':=by
 obtain ⟨N, hN⟩ : ∃ N, N = ks.length:=⟨_, rfl⟩;rw [<- hN] at hb ⊢;have hN1 : N <= 1000:=by rw [hN]; exact h.count
 have HN:=hid hN;have H:=hid h;clear hN h;go_enter Tryz.func230, Tryz.ntmps230;go_wp2_with fail;go_loopg [10] n (fun gk s10 wr => ∃ (j : Nat) (ks1 : List Nat), j + gk = n /\ s10 = .int .i64 j /\ SoAt wr P mem bs d cap ks1 /\ ks1.length = N /\ Aside (SwR a b j ks ks1) /\ Mid a (b + n) ks ks1 /\ Only (fun g => g = d) w wr)
 case atStart => exact ⟨0, ks, by omega, rfl, H.out, HN.out.symm, SwR.zero _ _ _, Mid.refl _ _ _, Only.refl _ _⟩
 case round =>
  obtain ⟨j, ks1, hj, rfl, h1, hl1, hS, hM, hO⟩:=hrel;cases gk with
  | zero =>
   have hjn : ¬ ((j : Int) < n):=by omega
   obtain rfl : j = n:=by omega
   go_wp2_with fail;go_end0
   exact ⟨rfl, ks1, h1, hS.out, hM, hO⟩
  | succ g =>
   have hjn : (j : Int) < n:=by omega
   have c0:=h1.cell (a + j) (by omega);have c1:=h1.cell (b + j) (by omega);have f0:=h1.soft (a + j);have f1:=h1.soft (b + j);have w0 : IntKind.i64.wrap ((a : Int) + (j : Int)) = (a : Int) + (j : Int):=by rw [IntKind.wrap_i64]; omega
   have w1 : IntKind.i64.wrap ((b : Int) + (j : Int)) = (b : Int) + (j : Int):=by rw [IntKind.wrap_i64]; omega
   have H1:=hid h1;have HL:=hid hl1;clear h1 hl1;go_wp2_with fail;go_region
   all_goals
    go_wp2;go_roundg g
    case measure => omega
    case rel => have hl:=HL.out;have hk:=H1.out.swp (a + j) (b + j) (by omega) (by omega);refine ⟨j + 1, swp ks1 (a + j) (b + j), by omega, by go_num, hk.drewN 1, by rw [swp_len]; exact hl, hS.out.step (by omega) (by omega), hM.trans (Mid.swp (by omega) (by omega) (by omega)), ?_⟩;exact ((hO.setCell (p:=⟨d, a + j, none⟩) (.inl rfl) _).setCell (p:=⟨d, b + j, none⟩) (.inl rfl) _).drewN 1
theorem swr_int (P : HpP) (mem : List Int) (bs : List Hb) (d cap a b n N : Nat) (a' b' n' : Int) (ks : List Nat) (V : Value) (w : World) (h : SoAt w P mem bs d cap ks) (ha : a' = a) (hb' : b' = b) (hn : n' = n) (hN : N = ks.length) (hab : a + n <= b) (hb : b + n <= ks.length) :
  Calls Tryz.prog 230 #[.slice (some ⟨d, 0, none⟩) N cap, .int .i64 a', .int .i64 b', .int .i64 n', V] w fun e w' => e = .returned (.tuple #[]) /\ ∃ ks', SoAt w' P mem bs d cap ks' /\ SwR a b n ks ks' /\ Mid a (b + n) ks ks' /\ Only (fun g => g = d) w w':=by
 subst ha; subst hb'; subst hn; subst hN;exact swr_any P mem bs d cap a b n ks V w h hab hb
theorem rot_any (P : HpP) (mem : List Int) (bs : List Hb) (d cap a m b : Nat) (ks : List Nat) (V : Value) (w : World) (h : SoAt w P mem bs d cap ks) (ham : a < m) (hmb : m < b) (hb : b <= ks.length) :
  Calls Tryz.prog 229 #[.slice (some ⟨d, 0, none⟩) ks.length cap, .int .i64 a, .int .i64 m, .int .i64 b, V] w fun e w' => e = .returned (.tuple #[]) /\ ∃ ks', SoAt w' P mem bs d cap ks' /\ Rot a m b ks ks' /\ Mid a b ks ks' /\ Only (fun g => g = d) w w':=by
 obtain ⟨N, hN⟩ : ∃ N, N = ks.length:=⟨_, rfl⟩;rw [<- hN] at hb ⊢;have hN1 : N <= 1000:=by rw [hN]; exact h.count
 obtain ⟨T, hT⟩ : ∃ T : Nat -> Option Nat, T = fun k => if k < a \/ b <= k then ks[k]? else if k < a + (b - m) then ks[k + (m - a)]? else ks[k - (b - m)]?:=⟨_, rfl⟩
 have hR0 : RotI m (m - a) (b - m) T ks:=by rw [hT]; exact RotI.begin_ ks (by omega) (by omega)
 have HN:=hid hN;have H:=hid h;have HT:=hid hT;have HR:=hid hR0;clear hN h hT hR0;go_enter Tryz.func229, Tryz.ntmps229;go_wp2_with fail;go_loopg [10, 11] (b - a) (fun gk s10 s11 wr => ∃ (i j : Nat) (ks1 : List Nat), i + j <= gk /\ 0 < i /\ 0 < j /\ i <= m - a /\ j <= b - m /\ s10 = .int .i64 i /\ s11 = .int .i64 j /\ SoAt wr P mem bs d cap ks1 /\ ks1.length = N /\ Aside (RotI m i j T ks1) /\ Mid a b ks ks1 /\ Only (fun g => g = d) w wr)
 case atStart => exact ⟨m - a, b - m, ks, by omega, by omega, by omega, by omega, by omega, by go_num, by go_num, H.out, HN.out.symm, HR.out, Mid.refl _ _ _, Only.refl _ _⟩
 case round =>
  obtain ⟨i, j, ks1, hij, hi0, hj0, him, hjb, rfl, rfl, h1, hl1, hR, hM, hO⟩:=hrel;have HL:=hid hl1.symm;have H1:=hid h1;clear hl1 h1;by_cases e : i = j
  ·subst e;go_wp2_with fail;refine (swr_int P mem bs d cap (m - i) m i N _ _ _ ks1 V _ H1.out (by omega) rfl rfl HL.out (by omega) (by have:=HL.out; omega)).mono ?_;rintro e w2 ⟨rfl, ks2, h2, hS, hM2, hO2⟩;go_wp2_with fail;go_end0
   refine ⟨rfl, ks2, h2, ?_, hM.trans (hM2.mono (by omega) (by omega)), hO.trans hO2⟩;have:=hR.out.end_ (by omega) hS;rw [HT.out] at this;exact this
  ·cases gk with
   | zero => omega
   | succ g =>
    have t0 : ((i : Int) != (j : Int)) = true:=by simp; omega
    by_cases hlt : j < i
    ·go_wp2_with fail;refine (swr_int P mem bs d cap (m - i) m j N _ _ _ ks1 V _ H1.out (by omega) rfl rfl HL.out (by omega) (by have:=HL.out; omega)).mono ?_;rintro e w2 ⟨rfl, ks2, h2, hS, hM2, hO2⟩;go_wp2_with fail;go_roundg g
     case measure => omega
     case rel => exact ⟨i - j, j, ks2, by omega, by omega, by omega, by omega, by omega, by go_num, rfl, h2, by rw [hM2.len]; exact HL.out.symm, hR.out.left hlt (by omega) hS, hM.trans (hM2.mono (by omega) (by omega)), hO.trans hO2⟩
    ·go_wp2_with fail;refine (swr_int P mem bs d cap (m - i) (m + j - i) i N _ _ _ ks1 V _ H1.out (by omega) (by omega) rfl HL.out (by omega) (by have:=HL.out; omega)).mono ?_;rintro e w2 ⟨rfl, ks2, h2, hS, hM2, hO2⟩;go_wp2_with fail;go_roundg g
     case measure => omega
     case rel => exact ⟨i, j - i, ks2, by omega, by omega, by omega, by omega, by omega, rfl, by go_num, h2, by rw [hM2.len]; exact HL.out.symm, hR.out.right (by omega) (by omega) hS, hM.trans (hM2.mono (by omega) (by omega)), hO.trans hO2⟩
theorem place_quiet (P : HpP) (mem : List Int) (bs : List Hb) (x y : Nat) (u v : Int) (W : World) (h : HpMem W P mem bs) (hs : ∀ x ∈ bs, x.at_ <= 32768) (hx : x < bs.length) (hy : y < bs.length) (n : Nat) (hu : u = (plc bs x : Int)) (hv : v = (plc bs y : Int)) :
  Calls Tryz.prog 225 #[.pointer (some ⟨P.h, 0, none⟩), .int .i64 x, .int .i64 y] (W.drewN n) fun e w' => e = .returned (.int .i64 (u - v)) /\ ∃ m, w' = W.drewN m:=by
 subst hu; subst hv;have:=byPlace_any P mem bs x y (W.drewN n) (h.only ((Only.refl (fun _ => False) W).drewN n) (fun _ _ h => h)) hs hx hy;refine this.mono ?_;rintro e w' ⟨he, m, hm⟩;exact ⟨he, n + m, by rw [hm]; simp [World.drewN, Nat.add_assoc]⟩
theorem plc_le {bs : List Hb} (hs : ∀ x ∈ bs, x.at_ <= 32768) (k : Nat) : plc bs k <= 32768:=by
 unfold plc;split
 ·next x hx => exact hs x (mem_of_getElem? hx)
 ·omega
theorem ins_any (P : HpP) (mem : List Int) (bs : List Hb) (d cap a b N : Nat) (ks : List Nat) (w : World) (h : SoAt w P mem bs d cap ks) (hN : N = ks.length) (hab : a <= b) (hb : b <= N) :
  Calls Tryz.prog 227 #[.slice (some ⟨d, 0, none⟩) N cap, .int .i64 a, .int .i64 b, .func (.func 225) #[.pointer (some ⟨P.h, 0, none⟩)] #[]] w fun e w' => e = .returned (.tuple #[]) /\ ∃ ks', SoAt w' P mem bs d cap ks' /\ Asc (plc bs) a b ks' /\ Mid a b ks ks' /\ Only (fun g => g = d) w w':=by
 have hN1 : N <= 1000:=by rw [hN]; exact h.count
 have HN:=hid hN;have H:=hid h;clear hN h;go_enter Tryz.func227, Tryz.ntmps227;go_wp2_with fail;go_loopg [8] (b - a) (fun gk s8 wr => ∃ (i : Nat) (ks1 : List Nat), i + gk = b + 1 /\ a < i /\ s8 = .int .i64 i /\ SoAt wr P mem bs d cap ks1 /\ ks1.length = N /\ Aside (Asc (plc bs) a i ks1) /\ Mid a b ks ks1 /\ Only (fun g => g = d) w wr)
 case atStart => exact ⟨a + 1, ks, by omega, by omega, by go_num, H.out, HN.out.symm, Asc.small (by omega), Mid.refl _ _ _, Only.refl _ _⟩
 case round =>
  obtain ⟨i, ks1, hi, hai, rfl, h1, hl1, hA, hM, hO⟩:=hrel;by_cases hib : i < b
  ·cases gk with
   | zero => omega
   | succ g0 =>
    have HM:=hid hM;have HO:=hid hO;have H1:=hid h1;have HL1:=hid hl1;clear hM hO h1 hl1;go_wp2_with fail;go_loopg [9] (i - a) (fun gk s9 wr2 => ∃ (j : Nat) (ks2 : List Nat), j <= a + gk /\ a <= j /\ j <= i /\ s9 = .int .i64 j /\ SoAt wr2 P mem bs d cap ks2 /\ ks2.length = N /\ Aside (Ins (plc bs) a i j ks2) /\ Mid a b ks ks2 /\ Only (fun g => g = d) w wr2)
    case atStart => exact ⟨i, ks1, by omega, by omega, Nat.le_refl _, rfl, H1.out, HL1.out, Ins.start hA.out, HM.out, HO.out⟩
    case round =>
     obtain ⟨j, ks2, hj, haj, hji, rfl, h2, hl2, hI, hM2, hO2⟩:=hrel;have H2:=hid h2;have HL2:=hid hl2;have HM2:=hid hM2;have HO2:=hid hO2;have HI:=hid (show Ins (plc bs) a i j ks2 from hI.out);by_cases hja : a < j
     ·have hd : (a : Int) < (j : Int):=by omega
      have lj:=h2.lt j (by omega);have lj1:=h2.lt (j - 1) (by omega);have cj:=h2.cell j (by omega);have cj1:=h2.cell (j - 1) (by omega);have fj:=h2.soft j;have fj1:=h2.soft (j - 1);obtain ⟨x, hx⟩ : ∃ x, x = ks2.getD j 0:=⟨_, rfl⟩;obtain ⟨y, hy⟩ : ∃ y, y = ks2.getD (j - 1) 0:=⟨_, rfl⟩;rw [<- hx] at lj cj;rw [<- hy] at lj1 cj1;have pq:=fun n => place_quiet P mem bs x y _ _ wr h2.heap h2.small lj lj1 n rfl rfl;obtain ⟨u, hu⟩ : ∃ u, u = plc bs x:=⟨_, rfl⟩;obtain ⟨v, hv⟩ : ∃ v, v = plc bs y:=⟨_, rfl⟩;rw [<- hu, <- hv] at pq;have hub : u <= 32768:=by rw [hu]; exact plc_le h2.small x
      have hvb : v <= 32768:=by rw [hv]; exact plc_le h2.small y
      have HX:=hid hx;have HY:=hid hy;have HU:=hid hu;have HV:=hid hv;have PQ:=hid pq;clear hx hy hu hv pq h2 hl2 hM2 hO2 hI;cases gk with
      | zero => omega
      | succ g =>
       by_cases huv : u < v
       ·go_wp2_with fail;go_quiet (first | (go_at_call 225; exact PQ.out _))
        go_wp2_with fail;go_region
        all_goals
         go_wp2;go_roundg g
         case measure => omega
         case rel =>
          have hl:=HL2.out;have hk:=(H2.out.drewN nq).swp j (j - 1) (by omega) (by omega);rw [<- HX.out, <- HY.out] at hk;refine ⟨j - 1, swp ks2 j (j - 1), by omega, by omega, by omega, by go_num, hk.drewN 1, by rw [swp_len]; exact hl, ?_, HM2.out.trans (Mid.swp (by omega) (by omega) (by omega)), ?_⟩
          ·exact HI.out.step hja hji (by omega) (get_of (by omega)) (get_of (by omega)) (by rw [<- HX.out, <- HY.out, <- HU.out, <- HV.out]; exact huv)
          ·exact (((HO2.out.drewN nq).setCell (p:=⟨d, j, none⟩) (.inl rfl) _).setCell (p:=⟨d, j - 1, none⟩) (.inl rfl) _).drewN 1
       ·go_wp2_with fail;go_quiet (first | (go_at_call 225; exact PQ.out _))
        go_wp2_with fail;go_roundg g0
        case measure => omega
        case rel => have hl:=HL2.out;refine ⟨i + 1, ks2, by omega, by omega, by go_num, H2.out.drewN nq, hl, ?_, HM2.out, HO2.out.drewN nq⟩;exact HI.out.stop hja hji (get_of (by omega)) (get_of (by omega)) (by rw [<- HX.out, <- HY.out, <- HU.out, <- HV.out]; omega)
     ·have e : j = a:=by omega
      clear hja haj hj;subst e;go_wp2_with fail;go_quiet (fail)
      go_wp2_with fail;go_roundg g0
      case measure => omega
      case rel => have hl:=HL2.out;exact ⟨i + 1, ks2, by omega, by omega, by go_num, H2.out.drewN nq, hl, HI.out.done, HM2.out, HO2.out.drewN nq⟩
  ·go_wp2_with fail;go_end0
   exact ⟨rfl, ks1, h1, hA.out.sub (Nat.le_refl _) (by omega), hM, hO⟩
def SymPost (P : HpP) (mem : List Int) (bs : List Hb) (d cap a b : Nat) (ks : List Nat) (w : World) (e : Ending) (w' : World) : Prop :=
 e = .returned (.tuple #[]) /\ ∃ ks', SoAt w' P mem bs d cap ks' /\ Asc (plc bs) a b ks' /\ Mid a b ks ks' /\ Only (fun g => g = d) w w'
theorem sym_left (P : HpP) (mem : List Int) (bs : List Hb) (d cap a b N : Nat) (ks : List Nat) (w : World) (h : SoAt w P mem bs d cap ks) (hN : N = ks.length) (hab : a + 1 <= b) (hb : b <= N) (hB : Asc (plc bs) (a + 1) b ks) :
  Calls Tryz.prog 228 #[.slice (some ⟨d, 0, none⟩) N cap, .int .i64 a, .int .i64 ((a + 1 : Nat) : Int), .int .i64 b, .func (.func 225) #[.pointer (some ⟨P.h, 0, none⟩)] #[]] w (SymPost P mem bs d cap a b ks w):=by
 have hN1 : N <= 1000:=by rw [hN]; exact h.count
 have la:=h.lt a (by omega);have ca:=h.cell a (by omega);obtain ⟨y, hy⟩ : ∃ y, y = ks.getD a 0:=⟨_, rfl⟩;rw [<- hy] at la ca;obtain ⟨v, hv⟩ : ∃ v, v = plc bs y:=⟨_, rfl⟩;have hvb : v <= 32768:=by rw [hv]; exact plc_le h.small y
 obtain ⟨m, hm⟩ : ∃ m, m = a + 1:=⟨_, rfl⟩;rw [<- hm] at hB hab ⊢;have hm1 : (m : Int) - (a : Int) = 1:=by omega
 have hm2 : a < m:=by omega
 have HN:=hid hN;have H:=hid h;have HB:=hid hB;have HY:=hid hy;have HV:=hid hv;have HM1:=hid hm;clear hN h hB hy hv hm;go_enter Tryz.func228, Tryz.ntmps228;go_wp2_with fail;go_loopg [10, 11] (b - m) (fun gk s10 s11 wr => ∃ (i j : Nat), j <= i + gk /\ m <= i /\ i <= j /\ j <= b /\ s10 = .int .i64 i /\ s11 = .int .i64 j /\ Aside (i = m \/ plc bs (ks.getD (i - 1) 0) < v) /\ Aside (j = b \/ v <= plc bs (ks.getD j 0)) /\ SoAt wr P mem bs d cap ks /\ Only (fun g => g = d) w wr)
 case atStart => exact ⟨m, b, by omega, by omega, by omega, by omega, rfl, rfl, .inl rfl, .inl rfl, H.out, Only.refl _ _⟩
 case round =>
  obtain ⟨i, j, hij, hmi, hij2, hjb, rfl, rfl, hlo, hhi, h1, hO⟩:=hrel;have ca:=h1.cell a (by have:=HN.out; omega);rw [<- HY.out] at ca;have H1:=hid h1;have HO:=hid hO;by_cases hlt : i < j
  ·cases gk with
   | zero => omega
   | succ g =>
    obtain ⟨h', hh⟩ : ∃ c, c = (i + j) / 2:=⟨_, rfl⟩;have hc1 : i <= h':=by omega
    have hc2 : h' < j:=by omega
    have hhN : h' < N:=by omega
    have haN : a < N:=by omega
    have hsum : ((i : Int) + (j : Int)) / 2 = (h' : Int):=by omega
    have lj:=H.out.lt h' (by have:=HN.out; omega);have cj:=h1.cell h' (by have:=HN.out; omega);obtain ⟨x, hx⟩ : ∃ x, x = ks.getD h' 0:=⟨_, rfl⟩;rw [<- hx] at lj cj;obtain ⟨u, hu⟩ : ∃ u, u = plc bs x:=⟨_, rfl⟩;have hub : u <= 32768:=by rw [hu]; exact plc_le H.out.small x
    have pq:=fun q => place_quiet P mem bs x y (u : Int) (v : Int) wr h1.heap H.out.small lj la q (by rw [hu]) (by rw [HV.out]);have PQ:=hid pq;have HX:=hid hx;have HU:=hid hu;clear pq hx hu hh h1 hO;by_cases huv : u < v
    ·go_wp2_with fail;clear hsum;go_quiet (first | (go_at_call 225; exact PQ.out _))
     go_wp2_with fail;go_roundg g
     case measure => omega
     case rel => exact ⟨h' + 1, j, by omega, by omega, by omega, by omega, by go_num, rfl, .inr (by show plc bs (ks.getD (h' + 1 - 1) 0) < v; rw [Nat.add_sub_cancel, <- HX.out, <- HU.out]; exact huv), hhi, H1.out.drewN nq, HO.out.drewN nq⟩
    ·go_wp2_with fail;clear hsum;go_quiet (first | (go_at_call 225; exact PQ.out _))
     go_wp2_with fail;go_roundg g
     case measure => omega
     case rel => exact ⟨i, h', by omega, by omega, by omega, by omega, rfl, rfl, hlo, .inr (by rw [<- HX.out, <- HU.out]; omega), H1.out.drewN nq, HO.out.drewN nq⟩
  ·obtain rfl : i = j:=by omega
   clear hij hij2 hlt h1 hO ca;have HLO:=hid hlo.out;have HHI:=hid hhi.out;clear hlo hhi;go_wp2_with fail;go_loopg [13] (i - 1 - a) (fun gk s13 wr2 => ∃ (k : Nat) (ks1 : List Nat), i <= k + 1 + gk /\ a <= k /\ k + 1 <= i /\ s13 = .int .i64 k /\ SoAt wr2 P mem bs d cap ks1 /\ ks1.length = N /\ Aside (Shl a k ks ks1) /\ Mid a b ks ks1 /\ Only (fun g => g = d) w wr2)
   case atStart => exact ⟨a, ks, by omega, by omega, by omega, rfl, H1.out, HN.out.symm, Shl.zero a ks, Mid.refl _ _ _, HO.out⟩
   case round =>
    obtain ⟨k, ks1, hk1, hk2, hk3, rfl, h2, hl2, hS, hM, hO2⟩:=hrel;have H2:=hid h2;have HL2:=hid hl2;have HS:=hid (show Shl a k ks ks1 from hS.out);have HM:=hid hM;have HO2:=hid hO2;by_cases hki : k + 1 < i
    ·cases gk with
     | zero => omega
     | succ g =>
      have c0:=h2.cell k (by omega);have c1:=h2.cell (k + 1) (by omega);have f0:=h2.soft k;have f1:=h2.soft (k + 1);clear h2 hl2 hS hM hO2;go_wp2_with fail;go_region
      all_goals
       go_wp2;go_roundg g
       case measure => omega
       case rel => have hl:=HL2.out;exact ⟨k + 1, swp ks1 k (k + 1), by omega, by omega, by omega, by go_num, (H2.out.swp k (k + 1) (by omega) (by omega)).drewN 1, by rw [swp_len]; exact hl, HS.out.step hk2 (by omega), HM.out.trans (Mid.swp (by omega) (by omega) (by omega)), ((HO2.out.setCell (p:=⟨d, k, none⟩) (.inl rfl) _).setCell (p:=⟨d, k + 1, none⟩) (.inl rfl) _).drewN 1⟩
    ·clear h2 hl2 hS hM hO2;go_wp2_with fail;have hNN:=HN.out;have hfin : Asc (plc bs) a b ks1:=by
      refine asc_left (i:=i) (by rw [<- HM1.out]; exact HB.out) (by omega) hjb (by omega) ?_ ?_ ?_
      ·rw [<- HM1.out, <- HY.out, <- HV.out]; exact HLO.out
      ·rw [<- HY.out, <- HV.out]; exact HHI.out
      ·have e : i - 1 = k:=by omega
       rw [e]; exact HS.out
     go_end0
     exact ⟨rfl, ks1, H2.out, hfin, HM.out, HO2.out⟩
theorem sym_right (P : HpP) (mem : List Int) (bs : List Hb) (d cap a m N : Nat) (ks : List Nat) (w : World) (h : SoAt w P mem bs d cap ks) (hN : N = ks.length) (hab : a + 1 < m) (hb : m + 1 <= N) (hB : Asc (plc bs) a m ks) :
  Calls Tryz.prog 228 #[.slice (some ⟨d, 0, none⟩) N cap, .int .i64 a, .int .i64 m, .int .i64 ((m + 1 : Nat) : Int), .func (.func 225) #[.pointer (some ⟨P.h, 0, none⟩)] #[]] w (SymPost P mem bs d cap a (m + 1) ks w):=by
 have hN1 : N <= 1000:=by rw [hN]; exact h.count
 have la:=h.lt m (by omega);obtain ⟨y, hy⟩ : ∃ y, y = ks.getD m 0:=⟨_, rfl⟩;rw [<- hy] at la;obtain ⟨v, hv⟩ : ∃ v, v = plc bs y:=⟨_, rfl⟩;have hvb : v <= 32768:=by rw [hv]; exact plc_le h.small y
 obtain ⟨b, hm⟩ : ∃ b, b = m + 1:=⟨_, rfl⟩;rw [<- hm] at hb ⊢;have hm1 : (b : Int) - (m : Int) = 1:=by omega
 have hm0 : ((m : Int) - (a : Int) == 1) = false:=by simp; omega
 have hmN : m < N:=by omega
 have HN:=hid hN;have H:=hid h;have HB:=hid hB;have HY:=hid hy;have HV:=hid hv;have HM1:=hid hm;clear hN h hB hy hv hm;go_enter Tryz.func228, Tryz.ntmps228;go_wp2_with fail;go_loopg [14, 15] (m - a) (fun gk s14 s15 wr => ∃ (i j : Nat), j <= i + gk /\ a <= i /\ i <= j /\ j <= m /\ s14 = .int .i64 i /\ s15 = .int .i64 j /\ Aside (i = a \/ plc bs (ks.getD (i - 1) 0) <= v) /\ Aside (j = m \/ v < plc bs (ks.getD j 0)) /\ SoAt wr P mem bs d cap ks /\ Only (fun g => g = d) w wr)
 case atStart => exact ⟨a, m, by omega, by omega, by omega, by omega, rfl, rfl, .inl rfl, .inl rfl, H.out, Only.refl _ _⟩
 case round =>
  obtain ⟨i, j, hij, hmi, hij2, hjb, rfl, rfl, hlo, hhi, h1, hO⟩:=hrel;have ca:=h1.cell m (by have:=HN.out; omega);rw [<- HY.out] at ca;have H1:=hid h1;have HO:=hid hO;by_cases hlt : i < j
  ·cases gk with
   | zero => omega
   | succ g =>
    obtain ⟨h', hh⟩ : ∃ c, c = (i + j) / 2:=⟨_, rfl⟩;have hc1 : i <= h':=by omega
    have hc2 : h' < j:=by omega
    have hhN : h' < N:=by omega
    have hsum : ((i : Int) + (j : Int)) / 2 = (h' : Int):=by omega
    have lj:=H.out.lt h' (by have:=HN.out; omega);have cj:=h1.cell h' (by have:=HN.out; omega);obtain ⟨x, hx⟩ : ∃ x, x = ks.getD h' 0:=⟨_, rfl⟩;rw [<- hx] at lj cj;obtain ⟨u, hu⟩ : ∃ u, u = plc bs x:=⟨_, rfl⟩;have hub : u <= 32768:=by rw [hu]; exact plc_le H.out.small x
    have pq:=fun q => place_quiet P mem bs y x (v : Int) (u : Int) wr h1.heap H.out.small la lj q (by rw [HV.out]) (by rw [hu]);have PQ:=hid pq;have HX:=hid hx;have HU:=hid hu;clear pq hx hu hh h1 hO;by_cases huv : v < u
    ·have hbb : decide ((v : Int) - (u : Int) < 0) = true:=by simp; omega
     go_wp2_with fail;clear hsum;go_quiet (first | (go_at_call 225; exact PQ.out _))
     go_wp2_with fail;go_roundg g
     case measure => omega
     case rel => exact ⟨i, h', by omega, by omega, by omega, by omega, rfl, rfl, hlo, .inr (by rw [<- HX.out, <- HU.out]; exact huv), H1.out.drewN nq, HO.out.drewN nq⟩
    ·have hbb : decide ((v : Int) - (u : Int) < 0) = false:=by simp; omega
     go_wp2_with fail;clear hsum;go_quiet (first | (go_at_call 225; exact PQ.out _))
     go_wp2_with fail;go_roundg g
     case measure => omega
     case rel => exact ⟨h' + 1, j, by omega, by omega, by omega, by omega, by go_num, rfl, .inr (by show plc bs (ks.getD (h' + 1 - 1) 0) <= v; rw [Nat.add_sub_cancel, <- HX.out, <- HU.out]; omega), hhi, H1.out.drewN nq, HO.out.drewN nq⟩
  ·obtain rfl : i = j:=by omega
   clear hij hij2 hlt h1 hO ca;have HLO:=hid hlo.out;have HHI:=hid hhi.out;clear hlo hhi;go_wp2_with fail;go_loopg [17] (m - i) (fun gk s17 wr2 => ∃ (k : Nat) (ks1 : List Nat), k <= i + gk /\ i <= k /\ k <= m /\ s17 = .int .i64 k /\ SoAt wr2 P mem bs d cap ks1 /\ ks1.length = N /\ Aside (Shr m k ks ks1) /\ Mid a b ks ks1 /\ Only (fun g => g = d) w wr2)
   case atStart => exact ⟨m, ks, by omega, by omega, by omega, rfl, H1.out, HN.out.symm, Shr.zero m ks, Mid.refl _ _ _, HO.out⟩
   case round =>
    obtain ⟨k, ks1, hk1, hk2, hk3, rfl, h2, hl2, hS, hM, hO2⟩:=hrel;have H2:=hid h2;have HL2:=hid hl2;have HS:=hid (show Shr m k ks ks1 from hS.out);have HM:=hid hM;have HO2:=hid hO2;have hmb:=HM1.out;by_cases hki : i < k
    ·cases gk with
     | zero => omega
     | succ g =>
      have c0:=h2.cell k (by omega);have c1:=h2.cell (k - 1) (by omega);have f0:=h2.soft k;have f1:=h2.soft (k - 1);have hk0 : 0 < k:=by omega
      have hkN : k < N:=by omega
      clear h2 hl2 hS hM hO2 hmb;go_wp2_with fail;go_region
      all_goals
       go_wp2;go_roundg g
       case measure => omega
       case rel => have hl:=HL2.out;have hmb:=HM1.out;exact ⟨k - 1, swp ks1 k (k - 1), by omega, by omega, by omega, by go_num, (H2.out.swp k (k - 1) (by omega) (by omega)).drewN 1, by rw [swp_len]; exact hl, HS.out.step hk3 (by omega) (by omega), HM.out.trans (Mid.swp (by omega) (by omega) (by omega)), ((HO2.out.setCell (p:=⟨d, k, none⟩) (.inl rfl) _).setCell (p:=⟨d, k - 1, none⟩) (.inl rfl) _).drewN 1⟩
    ·clear h2 hl2 hS hM hO2 hmb;go_wp2_with fail;have hNN:=HN.out;have hfin : Asc (plc bs) a b ks1:=by
      rw [HM1.out];refine asc_right (i:=i) HB.out (by omega) hjb (by omega) ?_ ?_ ?_
      ·rw [<- HY.out, <- HV.out]; exact HLO.out
      ·rw [<- HY.out, <- HV.out]; exact HHI.out
      ·have e : i = k:=by omega
       rw [e]; exact HS.out
     go_end0
     exact ⟨rfl, ks1, H2.out, hfin, HM.out, HO2.out⟩
end Go.Proofs.YtgaemfghpibeeaaGreatDoor
