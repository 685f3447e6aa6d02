/-
  Flat.Load; image.Check; which objects are near; objects renamed; rows of objects that grow. Conditions: each theorem names its own.
-/
import Derived.Test.YtgaemfghpibeeaaGreatDoorPk12
set_option maxRecDepth 100000
set_option maxHeartbeats 6000000
open Go.Lib (hid)
open List (getElem?_eq_getElem mem_of_getElem? getElem?_append_left getElem?_append_right getD_eq_getElem?_getD eq_nil_of_length_eq_zero getElem?_eq_none_iff length_replicate take_of_length_le length_set length_append)
namespace Go.Proofs.YtgaemfghpibeeaaGreatDoor
open Go.RowKit
def ChkR (l : List Ob) (f : Int) (w : World) (e : Ending) (w' : World) : Prop:=Below w.heap.size w w' /\
 ((Valid jumpsM l f /\ e = .returned (.int .i64 0)) \/ (¬ Valid jumpsM l f /\ e = .returned (.int .i64 180)))
theorem getO_at {V : List Ob} {j : Nat} (h : j < V.length) (h2 : V.length <= 2000) : getO V (2 * ((j : Int) + 1)) = V[j]?:=by
 unfold getO;have:=namM_two (i:=j + 1) (by omega) (by omega);rw [show ((2 : Int) * (((j + 1 : Nat) : Int))) = 2 * ((j : Int) + 1) by omega] at this;rw [this, if_pos rfl]
 congr 1
theorem frame_ok {n : Nat} {f : Int} (hn : n <= 2000) : ((namM f).2 = true /\ (namM f).1 <= n) ↔ (f % 2 = 0 /\ 2 <= f /\ f <= 2 * (n : Int)):=by
 constructor
 ·rintro ⟨h1, h2⟩;obtain ⟨a, b, c, d⟩:=namM_ok h1;refine ⟨b, ?_, ?_⟩ <;> omega
 ·rintro ⟨h1, h2, h3⟩;have e : f = 2 * (((f / 2).toNat : Nat) : Int):=by omega
  have:=namM_two (i:=(f / 2).toNat) (by omega) (by omega);rw [<- e] at this;rw [this];exact ⟨rfl, by simp only; omega⟩
theorem ObjsAt.addr {w : World} {A : Option Addr} {l : List Ob} (h : ObjsAt w A l) (hl : 0 < l.length) : ∃ b off, A = some ⟨b, off, none⟩:=by obtain ⟨b, off, _, _, _, _, h1, _⟩:=h 0 _ (getElem?_eq_getElem hl);exact ⟨b, off, h1⟩
theorem ObjsAt.row {w : World} {b off : Nat} {l : List Ob} {j : Nat} {o : Ob} (h : ObjsAt w (some ⟨b, off, none⟩) l) (ho : l[j]? = some o) : ∃ Aj caj Bj cbj, b < w.heap.size /\ ObR w o Aj caj Bj cbj /\
  w.cell? ⟨b, off + j * 4, none⟩ = some (.int .i64 o.cls) /\ w.cell? ⟨b, off + j * 4 + 1, none⟩ = some (.int .i64 o.kind) /\ w.cell? ⟨b, off + j * 4 + 2, none⟩ = some (.slice Aj o.ws.length caj) /\ w.cell? ⟨b, off + j * 4 + 3, none⟩ = some (.slice Bj o.bs.length cbj):=by
 obtain ⟨b', off', Aj, caj, Bj, cbj, h1, h2, h3, h4, h5, h6, h7⟩:=h j o ho;injection h1 with h1;injection h1 with e1 e2;subst e1;subst e2;exact ⟨Aj, caj, Bj, cbj, h2, h3, h4, h5, h6, h7⟩
theorem leAll_iff {l : List Int} {n : Int} : leAll l n = true ↔ ∀ k ∈ l, k <= n:=by simp [leAll]
theorem rchk_any (l : List Ob) (A : Option Addr) (cap : Nat) (f : Int) (wa w : World) (h : ObjsAt wa A l) (hwa : Below wa.heap.size wa w) (hl : l.length <= 9223372036854775807) (hf63 : -9223372036854775808 <= f /\ f <= 9223372036854775807) :
  Calls Tryz.prog 7 #[.agg #[.slice A l.length cap, .int .i64 f]] w (ChkR l f w):=by
 have hal:=(Below.refl w.heap.size w).alloc (Nat.le_refl _) (.cells #[.slice A l.length cap, .int .i64 f] 24);have b0:=Blk.new w 24 #[.slice A l.length cap, .int .i64 f];have noA : l.length < 4 -> ¬ Valid jumpsM l f:=fun h1 h2 => by have:=h2.n4; omega
 have noB : 2000 < l.length -> ¬ Valid jumpsM l f:=fun h1 h2 => by have:=h2.n2000; omega
 have noC : l.length <= 2000 -> ¬ (f % 2 = 0 /\ 2 <= f /\ f <= 2 * (l.length : Int)) -> ¬ Valid jumpsM l f:=fun h0 h1 h2 => h1 ((frame_ok h0).1 h2.fr);have noD : ∀ x, l[3]? = some x -> ¬ (x.kind = 1 /\ 12 <= x.ws.length) -> ¬ Valid jumpsM l f:=fun x hx h1 h2 => h1 (h2.k3 x hx);have noE : ∀ x ∈ l, checkM x = false -> ¬ Valid jumpsM l f:=fun x hx h1 h2 => by rw [h2.check x hx] at h1; cases h1
 have noF : ∀ x ∈ l, leAll (refsM x) l.length = false -> ¬ Valid jumpsM l f:=fun x hx h1 h2 => by rw [leAll_iff.2 (h2.named x hx)] at h1; cases h1
 have noG : ∀ x ∈ l, codedM jumpsM l x = false -> ¬ Valid jumpsM l f:=fun x hx h1 h2 => by rw [h2.coded x hx] at h1; cases h1
 have yes : 4 <= l.length -> l.length <= 2000 -> (f % 2 = 0 /\ 2 <= f /\ f <= 2 * (l.length : Int)) -> (∀ x, l[3]? = some x -> x.kind = 1 /\ 12 <= x.ws.length) -> (∀ i, i < l.length -> ∀ x, l[i]? = some x -> checkM x = true /\ leAll (refsM x) l.length = true) -> (∀ i, i < l.length -> ∀ x, l[i]? = some x -> codedM jumpsM l x = true) -> Valid jumpsM l f :=
  fun h1 h2 h3 h4 h5 h6 => ⟨h1, h2, h4, (frame_ok h2).2 h3, fun x hx => by
   obtain ⟨i, hi⟩:=List.getElem?_of_mem hx;exact (h5 i (List.getElem?_eq_some_iff.1 hi).1 x hi).1, fun x hx => by
   obtain ⟨i, hi⟩:=List.getElem?_of_mem hx;exact leAll_iff.1 (h5 i (List.getElem?_eq_some_iff.1 hi).1 x hi).2, fun x hx => by
   obtain ⟨i, hi⟩:=List.getElem?_of_mem hx;exact h6 i (List.getElem?_eq_some_iff.1 hi).1 x hi⟩
 have hrow:=fun W (hb : Below w.heap.size w W) => (h.below (hwa.trans (hb.mono hwa.size)) : ObjsAt W A l);have haddr:=fun (hl : 0 < l.length) => h.addr hl;have hread:=fun W (hb : Below w.heap.size w W) (j : Nat) o (ho : l[j]? = some o) (hc : checkM o = true) (hk : o.kind ≠ 0) (hl2 : l.length <= 2000) => rread_any A l.length cap (2 * ((j : Int) + 1)) o wa W (hwa.trans (hb.mono hwa.size)) hc (fun W' hb' => rget_yes l A cap _ o wa W' h ((hwa.trans (hb.mono hwa.size)).trans (hb'.mono (Nat.le_trans hwa.size hb.size))) (by rw [getO_at (List.getElem?_eq_some_iff.1 ho).1 hl2]; exact ho) hk hl2)
 have hget:=fun W (hb : Below w.heap.size w W) (c : Int) o (ho : getO l c = some o) (hk : o.kind ≠ 0) (hl2 : l.length <= 2000) => rget_yes l A cap c o wa W h (hwa.trans (hb.mono hwa.size)) ho hk hl2;have hgno:=fun W (c : Int) (ho : getO l c = none) => rget_no l A cap c wa W ho;have hobw:=fun W (hb : Below w.heap.size w W) (o : Ob) (Aj : Option Addr) (caj : Nat) (Bj : Option Addr) (cbj : Nat) (hO : ObR wa o Aj caj Bj cbj) => hO.below (hwa.trans (hb.mono hwa.size));obtain ⟨n, hn⟩ : ∃ n, n = l.length:=⟨_, rfl⟩;obtain ⟨VV, hVV⟩ : ∃ VV : Prop, VV = Valid jumpsM l f:=⟨_, rfl⟩;unfold ChkR;rw [<- hVV] at noA noB noC noD noE noF noG yes ⊢;rw [<- hn] at noA noB noC noF yes hread hget hgno hal b0 hl ⊢;have NOA:=hid noA;have NOB:=hid noB;have NOC:=hid noC;have NOD:=hid noD;have NOE:=hid noE;have NOF:=hid noF;have NOG:=hid noG;have YES:=hid yes;have HROW:=hid hrow;have HADDR:=hid haddr;have HREAD:=hid hread;have HGET:=hid hget;have HGNO:=hid hgno;have HOBW:=hid hobw;have HN:=hid hn;have HAL:=hid hal;have B0:=hid b0;have c0:=b0.cell 0;have c1:=b0.cell 1;simp only [qTa, qTb, qTc] at c0 c1;clear noA noB noC noD noE noF noG yes hrow haddr hread hget hgno hobw hn hal b0 hVV h hwa;by_cases a1 : n < 4
 ·go_enter Tryz.func7, Tryz.ntmps7;go_wp2_with fail;go_ret;exact ⟨HAL.out, .inr ⟨NOA.out a1, rfl⟩⟩
 ·have a1' : ¬ ((n : Int) < 4):=by omega
  by_cases a2 : 2000 < n
  ·have a2' : (2000 : Int) < (n : Int):=by omega
   go_enter Tryz.func7, Tryz.ntmps7;go_wp2_with fail;go_ret;exact ⟨HAL.out, .inr ⟨NOB.out a2, rfl⟩⟩
  ·have a2' : ¬ (2000 : Int) < (n : Int):=by omega
   by_cases a3 : f % 2 = 0
   ·have a3' : f.tmod 2 = 0:=(tmod2 f).2 a3;by_cases a4 : f < 2
    ·have N:=hid (NOC.out (by omega) (by omega));clear NOA NOB NOC NOD NOE NOF NOG YES;go_enter Tryz.func7, Tryz.ntmps7;go_wp2_with fail;go_ret;exact ⟨HAL.out, .inr ⟨N.out, rfl⟩⟩
    ·by_cases a5 : 2 * (n : Int) < f
     ·have N:=hid (NOC.out (by omega) (by omega));have a3'' : f % 2 = 0:=a3;clear NOA NOB NOC NOD NOE NOF NOG YES a3';go_enter Tryz.func7, Tryz.ntmps7;go_wp2_with fail;go_ret;exact ⟨HAL.out, .inr ⟨N.out, rfl⟩⟩
     ·obtain ⟨b, off, rfl⟩:=HADDR.out (by have:=HN.out; omega);obtain ⟨x3, hx3⟩ : ∃ x, l[3]? = some x:=⟨_, getElem?_eq_getElem (by have:=HN.out; omega)⟩;obtain ⟨A3, ca3, B3, cb3, hbl, hO3, q0, q1, q2, q3⟩:=(HROW.out _ HAL.out).row hx3;have nD:=NOD.out x3 hx3;have yD : x3.kind = 1 -> 12 <= x3.ws.length -> ∀ x, l[3]? = some x -> x.kind = 1 /\ 12 <= x.ws.length:=fun h1 h2 x hx => by rw [hx3] at hx; cases hx; exact ⟨h1, h2⟩
      obtain ⟨n3, hn3⟩ : ∃ n, n = x3.ws.length:=⟨_, rfl⟩;obtain ⟨k3, hk3⟩ : ∃ n, n = x3.kind:=⟨_, rfl⟩;rw [<- hn3] at q2;rw [<- hk3] at q1;rw [<- hn3, <- hk3] at nD yD;have hF : f % 2 = 0 /\ 2 <= f /\ f <= 2 * (n : Int):=⟨a3, by omega, by omega⟩;have HF:=hid hF;have a3'' : f % 2 = 0:=a3;clear NOA NOB NOC NOD hx3 q0 q3 hO3 hn3 hk3 hF a3';by_cases b1 : k3 = 1
      ·subst b1;by_cases b2 : n3 < 12
       ·have b2' : (n3 : Int) < 12:=by omega
        have N:=hid (nD (by omega));clear nD yD NOE NOF NOG YES;go_enter Tryz.func7, Tryz.ntmps7;go_wp2_with fail;go_ret;exact ⟨HAL.out, .inr ⟨N.out, rfl⟩⟩
       ·have b2' : ¬ ((n3 : Int) < 12):=by omega
        have YD:=hid (yD rfl (by omega));have yes:=YES.out (by omega) (by omega) HF.out YD.out;have YES2:=hid yes;have bb0:=B0.out.alloc (.cells #[.slice (some ⟨b, off, none⟩) n cap] 68);have bb1:=Blk.new2 w (.cells #[.slice (some ⟨b, off, none⟩) n cap, .int .i64 f] 24) 68 #[.slice (some ⟨b, off, none⟩) n cap];have hal2:=HAL.out.alloc (by simp) (.cells #[.slice (some ⟨b, off, none⟩) n cap] 68);obtain ⟨w1, hw1⟩ : ∃ w1, w1 = (w.alloc (.cells #[.slice (some ⟨b, off, none⟩) n cap, .int .i64 f] 24)).alloc (.cells #[.slice (some ⟨b, off, none⟩) n cap] 68):=⟨_, rfl⟩;rw [<- hw1] at bb0 bb1 hal2;have BB0:=hid bb0;have BB1:=hid bb1;have HAL2:=hid hal2;have HW1:=hid hw1;clear nD yD YES YD HF yes bb0 bb1 hal2 hw1;go_enter Tryz.func7, Tryz.ntmps7;go_wp2_with fail;rw [<- HW1.out];go_loopg [5] n (fun gk s5 wr => ∃ j : Nat, j + gk = n /\ s5 = .int .i64 j /\ Aside (Below w1.heap.size w1 wr) /\ Aside (∀ i, i < j -> ∀ x, l[i]? = some x -> checkM x = true /\ leAll (refsM x) n = true))
        case atStart => exact ⟨0, by omega, rfl, Below.refl _ _, fun i hi => absurd hi (by omega)⟩
        case round =>
         clear hbl q1 q2 b2 b2' c0 c1 a1 a2 a4 a5 a3 a3'';obtain ⟨j, hj, rfl, hB, hall⟩:=hrel;have y0:=BB0.out.keep hB.out;have y1:=BB1.out.keep hB.out;have c0:=y0.cell 0;have d0:=y1.cell 0;simp only [qTa, qTb] at c0 d0;have hbw:=HAL2.out.trans (hB.out.mono HAL2.out.size);clear y0 y1;cases gk with
         | succ g =>
          have hjn : (j : Int) < n:=by omega
          obtain ⟨x, hx⟩ : ∃ x, l[j]? = some x:=⟨_, getElem?_eq_getElem (by have:=HN.out; omega)⟩;obtain ⟨Aj, caj, Bj, cbj, hbl, hO, q0, q1, q2, q3⟩:=(HROW.out wr hbw).row hx;have hck:=rcheck_any x Aj caj Bj cbj wr hO;unfold RckPost obV at hck;have hnms:=fun W (hb : Below wr.heap.size wr W) (h1 : x.ws.length <= 1000) (h2 : (namM x.cls).2 = true) => names_any x Aj caj Bj cbj (n : Int) W (hO.below hb) h1 h2;unfold obV at hnms;have nE:=NOE.out x (mem_of_getElem? hx);have nF:=NOF.out x (mem_of_getElem? hx);have hpt:=fun (e : checkM x = true) => checkM_parts e;have hln : checkM x = true -> x.ws.length <= 1000:=fun e => by
           obtain ⟨_, ⟨_, _, h3, _⟩ | ⟨_, h3, _⟩⟩:=checkM_parts e
           ·exact h3
           ·rw [h3]; simp
          have hcl : checkM x = true -> (namM x.cls).2 = true:=fun e => (checkM_parts e).1;have hnx : checkM x = true -> leAll (refsM x) n = true -> ∀ i, i < j + 1 -> ∀ y, l[i]? = some y -> checkM y = true /\ leAll (refsM y) n = true:=fun h1 h2 i hi y hy => by
           rcases Nat.lt_or_ge i j with h3 | h3
           ·exact hall.out i h3 y hy
           ·have : i = j:=by omega
            subst this;rw [hx] at hy;cases hy
            exact ⟨h1, h2⟩
          obtain ⟨n1, hn1⟩ : ∃ n, n = x.ws.length:=⟨_, rfl⟩;obtain ⟨n2, hn2⟩ : ∃ n, n = x.bs.length:=⟨_, rfl⟩;rw [<- hn1, <- hn2] at hck hnms;rw [<- hn1] at q2 hln;rw [<- hn2] at q3;obtain ⟨c, hc⟩ : ∃ r, r = x.cls:=⟨_, rfl⟩;obtain ⟨k, hk⟩ : ∃ r, r = x.kind:=⟨_, rfl⟩;rw [<- hc] at q0 hck hnms hcl;rw [<- hk] at q1 hck hnms;obtain ⟨r, hr⟩ : ∃ r, r = checkM x:=⟨_, rfl⟩;rw [<- hr] at hck nE hln hcl hnx;obtain ⟨r2, hr2⟩ : ∃ r, r = leAll (refsM x) n:=⟨_, rfl⟩;rw [<- hr2] at nF hnms hnx;have HCK:=hid hck;have HNMS:=hid hnms;have HLN:=hid hln;have HCL:=hid hcl;have HNX:=hid hnx;have HBW:=hid hbw;clear hck hnms hO hpt hln hcl hnx hn1 hn2 hc hk hr hr2 hx hall hbw;cases r with
          | false => have N:=hid (nE rfl);have e0 : errOf false = 2:=rfl;rw [e0] at HCK;clear nE nF e0 HNMS HLN HCL HNX;go_wp2_with fail;refine HCK.out.mono ?_;rintro e w5 ⟨rfl, hb5⟩;have fin : Below w.heap.size w w5:=HBW.out.trans (hb5.mono HBW.out.size);have FIN:=hid fin;have c0:=(hb5.cell (p:=⟨w.heap.size, 0, none⟩) (by have:=BB0.out.lt; have:=hB.out.size; dsimp only; omega)).trans c0;clear fin hb5 hB;go_wp2_with fail;go_ret;exact ⟨FIN.out, .inr ⟨N.out, rfl⟩⟩
          | true =>
           have e0 : errOf true = 0:=rfl;rw [e0] at HCK;clear nE e0;go_wp2_with fail;refine HCK.out.mono ?_;rintro e w5 ⟨rfl, hb5⟩;have c5:=(hb5.cell (p:=⟨w.heap.size, 0, none⟩) (by have:=BB0.out.lt; have:=hB.out.size; dsimp only; omega)).trans c0;have q5:=(hb5.cell (p:=⟨b, off + j * 4, none⟩) hbl).trans q0;have q6:=(hb5.cell (p:=⟨b, off + j * 4 + 1, none⟩) hbl).trans q1;have q7:=(hb5.cell (p:=⟨b, off + j * 4 + 2, none⟩) hbl).trans q2;have q8:=(hb5.cell (p:=⟨b, off + j * 4 + 3, none⟩) hbl).trans q3;have hn5:=HNMS.out w5 hb5 (HLN.out (by trivial)) (HCL.out (by trivial));have HN5:=hid hn5;have hb1 : Below w1.heap.size w1 w5:=hB.out.trans (hb5.mono hB.out.size);have hb2 : Below w.heap.size w w5:=HBW.out.trans (hb5.mono HBW.out.size);have HB1:=hid hb1;have HB2:=hid hb2;clear hn5 hb1 hb2 hb5 hB HCK HNMS HLN HCL HBW c0 q0 q1 q2 q3 d0;cases r2 with
           | false => have N:=hid (nF rfl);clear nF HNX;go_wp2_with fail;refine HN5.out.mono ?_;rintro e w6 ⟨rfl, hb6⟩;have FIN:=hid (HB2.out.trans (hb6.mono HB2.out.size));clear hb6;go_wp2_with fail;go_ret;exact ⟨FIN.out, .inr ⟨N.out, rfl⟩⟩
           | true =>
            clear nF;go_wp2_with fail;refine HN5.out.mono ?_;rintro e w6 ⟨rfl, hb6⟩;have fb : Aside (Below w1.heap.size w1 w6):=HB1.out.trans (hb6.mono HB1.out.size);have fx : Aside (∀ i, i < j + 1 -> ∀ y, l[i]? = some y -> checkM y = true /\ leAll (refsM y) n = true):=HNX.out (by trivial) (by trivial);clear hb6 HNX;go_wp2_with fail;go_roundg g
            case measure => omega
            case rel => exact ⟨j + 1, by omega, by go_num, fb, fx⟩
         | zero =>
          have hjn : ¬ ((j : Int) < n):=by omega
          have hck : ∀ i, i < n -> ∀ x, l[i]? = some x -> checkM x = true /\ leAll (refsM x) n = true:=fun i hi => hall.out i (by omega);have yes2:=YES2.out (by have:=HN.out; intro i hi; exact hck i (by omega));have hcks : ∀ i x, l[i]? = some x -> checkM x = true:=fun i x hx => (hck i (by have:=(List.getElem?_eq_some_iff.1 hx).1; have:=HN.out; omega) x hx).1;have HCKS:=hid hcks;have Y2:=hid yes2;have stB : Aside (Below w1.heap.size w1 wr):=hB.out;clear hall hck yes2 hcks YES2 NOE NOF hbw hB;go_wp2_with fail;go_loopg [7] n (fun gk s7 wr => ∃ j : Nat, j + gk = n /\ s7 = .int .i64 j /\ Aside (Below w1.heap.size w1 wr) /\ Aside (∀ i, i < j -> ∀ x, l[i]? = some x -> codedM jumpsM l x = true))
          case atStart => exact ⟨0, by omega, rfl, stB, fun i hi => absurd hi (by omega)⟩
          case round =>
           clear c0 d0 stB hjn;obtain ⟨i, hi, rfl, hB, hall⟩:=hrel;have y1:=BB1.out.keep hB.out;have d0:=y1.cell 0;simp only [qTa, qTb] at d0;have hbw:=HAL2.out.trans (hB.out.mono HAL2.out.size);clear y1;cases gk with
           | succ g =>
            have hjn : (i : Int) < n:=by omega
            obtain ⟨x, hx⟩ : ∃ x, l[i]? = some x:=⟨_, getElem?_eq_getElem (by have:=HN.out; omega)⟩;have hcx:=HCKS.out i x hx;have kne : ∀ y, checkM y = true -> y.kind ≠ 0:=fun y hy => by obtain ⟨_, ⟨h3, _⟩ | ⟨h3, _⟩⟩:=checkM_parts hy <;> omega
            have hrd:=HREAD.out wr hbw i x hx hcx (kne x hcx) (by omega);have nG:=NOG.out x (mem_of_getElem? hx);have hnx : codedM jumpsM l x = true -> ∀ q, q < i + 1 -> ∀ y, l[q]? = some y -> codedM jumpsM l y = true:=fun h1 q hq y hy => by
             rcases Nat.lt_or_ge q i with h3 | h3
             ·exact hall.out q h3 y hy
             ·have : q = i:=by omega
              subst this;rw [hx] at hy;cases hy
              exact h1
            have HRD:=hid hrd;have HNX:=hid hnx;have NG:=hid nG;have HBW:=hid hbw;have HX:=hid hx;have KNE:=hid kne;clear hrd hnx nG hall hcx hx kne hbw;unfold ReadR methV at HRD;go_wp2_with fail;refine HRD.out.mono ?_;rintro e w5 ⟨hb5, ⟨hm, k, hk, rfl⟩ | ⟨ma, mt, mp, c, mn, hm, rfl⟩⟩
            ·have hc : codedM jumpsM l x = true:=by unfold codedM; rw [hm]
             have fb : Aside (Below w1.heap.size w1 (w5.alloc (.cells #[.int .i64 0, .int .i64 0, .int .i64 0, .int .i64 0, .int .i64 0] 72))):=(hB.out.trans (hb5.mono hB.out.size)).alloc (Nat.le_trans hB.out.size hb5.size) _;have fx : Aside _:=HNX.out hc;have hk2 : (k != 0) = true:=by simpa using hk
             clear hb5 hB HNX NG HX HBW hc hm hk;go_wp2_with fail;go_roundg g
             case measure => omega
             case rel => exact ⟨i + 1, by omega, by go_num, fb, fx⟩
            ·have hb6 : Below w1.heap.size w1 (w5.alloc (.cells #[.int .i64 ma, .int .i64 mt, .int .i64 mp, .int .i64 c, .int .i64 mn] 72)):=(hB.out.trans (hb5.mono hB.out.size)).alloc (Nat.le_trans hB.out.size hb5.size) _;have hbw6:=HAL2.out.trans (hb6.mono HAL2.out.size);have d5:=(hb6.cell (p:=⟨w.heap.size + 1, 0, none⟩) BB1.out.lt).trans ((BB1.out.cell 0));simp only [qTa, qTb] at d5;have bm:=Blk.new w5 72 #[.int .i64 ma, .int .i64 mt, .int .i64 mp, .int .i64 c, .int .i64 mn];have m3:=bm.cell 3;simp only [qTa, qTb, qTc] at m3;obtain ⟨w6, hw6⟩ : ∃ w6, w6 = w5.alloc (.cells #[.int .i64 ma, .int .i64 mt, .int .i64 mp, .int .i64 c, .int .i64 mn] 72):=⟨_, rfl⟩;rw [<- hw6] at hb6 hbw6 d5 m3;have HW6:=hid hw6;have HB6:=hid hb6;have HBW6:=hid hbw6;have HM:=hid hm;clear hw6 hb6 hbw6 hm bm hb5 hB HBW d0;cases hgo : getO l c with
             | none =>
              have hc : codedM jumpsM l x = true:=by unfold codedM; rw [HM.out]; simp only [hgo]
              have hg:=HGNO.out w6 c hgo;unfold GetR obV dfltO at hg;have HG:=hid hg;have fx : Aside _:=HNX.out hc;clear hg hc HNX NG hgo;go_upto_region 17 with (fail);rw [<- HW6.out];go_wp2_with fail;refine HG.out.mono ?_;rintro e w7 ⟨A7, ca7, B7, cb7, rfl, -, hb7⟩;have fb : Aside (Below w1.heap.size w1 (w7.alloc (.cells #[.int .i64 0, .int .i64 0, .slice A7 0 ca7, .slice B7 0 cb7] 29))):=(HB6.out.trans (hb7.mono HB6.out.size)).alloc (Nat.le_trans HB6.out.size hb7.size) _;clear hb7;go_wp2_with fail;go_roundg g
              case measure => omega
              case rel => exact ⟨i + 1, by omega, by go_num, fb, fx⟩
             | some z =>
              obtain ⟨jz, -, hzj⟩:=getO_namM hgo;have hcz:=HCKS.out jz z hzj;have hcd : codedM jumpsM l x = (decide (z.kind ≠ 2) || jumpsM z.bs):=by unfold codedM; rw [HM.out]; simp only [hgo]
              have hg:=HGET.out w6 HBW6.out c z hgo (KNE.out z hcz) (by omega);have hzb : z.bs.length <= 1000:=by
               obtain ⟨_, ⟨_, h3, _⟩ | ⟨_, _, h3⟩⟩:=checkM_parts hcz
               ·rw [h3]; simp
               ·exact h3
              have hjmp:=fun W Bj cbj (hcb : cbj <= 9223372036854775807) (hlb : z.bs.length <= cbj) (hB : Byts W Bj z.bs) => rjumps_any W Bj z.bs cbj hcb hlb (by omega) hB;have nG:=NG.out;have nX:=HNX.out;rw [hcd] at nG nX;unfold GetR obV at hg;obtain ⟨n1, hn1⟩ : ∃ n, n = z.ws.length:=⟨_, rfl⟩;obtain ⟨n2, hn2⟩ : ∃ n, n = z.bs.length:=⟨_, rfl⟩;obtain ⟨k, hk⟩ : ∃ r, r = z.kind:=⟨_, rfl⟩;obtain ⟨cz, hcz2⟩ : ∃ r, r = z.cls:=⟨_, rfl⟩;obtain ⟨rj, hrj⟩ : ∃ r, r = jumpsM z.bs:=⟨_, rfl⟩;rw [<- hn1, <- hn2, <- hcz2, <- hk] at hg;rw [<- hn2, <- hrj] at hjmp;rw [<- hk, <- hrj] at nG nX;have HG:=hid hg;have HJ:=hid hjmp;have HN2:=hid hn2;clear hg hjmp hn1 hn2 hk hcz2 hrj hgo hzj hcz hcd hzb HNX NG HM;by_cases k2 : k = 2
              ·subst k2;cases rj with
               | true =>
                have fx : Aside _:=nX (by simp);clear nG nX;go_upto_region 17 with (fail);rw [<- HW6.out];go_wp2_with fail;refine HG.out.mono ?_;rintro e w7 ⟨A7, ca7, B7, cb7, rfl, hO7, hb7⟩;have hb8:=(HB6.out.trans (hb7.mono HB6.out.size)).alloc (Nat.le_trans HB6.out.size hb7.size) (.cells #[.int .i64 cz, .int .i64 2, .slice A7 n1 ca7, .slice B7 n2 cb7] 29);have b8:=Blk.new w7 29 #[.int .i64 cz, .int .i64 2, .slice A7 n1 ca7, .slice B7 n2 cb7];have hO8:=HOBW.out _ (HAL2.out.trans (hb8.mono HAL2.out.size)) z A7 ca7 B7 cb7 hO7;have hj8:=HJ.out _ B7 cb7 hO8.cb63 (by rw [HN2.out]; exact hO8.lb) hO8.byts;have e1:=b8.cell 1;have e3:=b8.cell 3;simp only [qTa, qTb, qTc] at e1 e3;have HJ8:=hid hj8;have HB8:=hid hb8;clear hb7 hO7 hb8 b8 hO8 hj8 HJ HG;go_wp2_with fail;refine HJ8.out.mono ?_;rintro e w9 ⟨rfl, hb9⟩;have fb : Aside (Below w1.heap.size w1 w9):=HB8.out.trans (hb9.mono HB8.out.size);clear hb9;go_wp2_with fail;go_roundg g
                case measure => omega
                case rel => exact ⟨i + 1, by omega, by go_num, fb, fx⟩
               | false => have N:=hid (nG (by simp));clear nG nX;go_upto_region 17 with (fail);rw [<- HW6.out];go_wp2_with fail;refine HG.out.mono ?_;rintro e w7 ⟨A7, ca7, B7, cb7, rfl, hO7, hb7⟩;have hb8:=(HB6.out.trans (hb7.mono HB6.out.size)).alloc (Nat.le_trans HB6.out.size hb7.size) (.cells #[.int .i64 cz, .int .i64 2, .slice A7 n1 ca7, .slice B7 n2 cb7] 29);have b8:=Blk.new w7 29 #[.int .i64 cz, .int .i64 2, .slice A7 n1 ca7, .slice B7 n2 cb7];have hO8:=HOBW.out _ (HAL2.out.trans (hb8.mono HAL2.out.size)) z A7 ca7 B7 cb7 hO7;have hj8:=HJ.out _ B7 cb7 hO8.cb63 (by rw [HN2.out]; exact hO8.lb) hO8.byts;have e1:=b8.cell 1;have e3:=b8.cell 3;simp only [qTa, qTb, qTc] at e1 e3;have HJ8:=hid hj8;have HB8:=hid hb8;clear hb7 hO7 hb8 b8 hO8 hj8 HJ HG;go_wp2_with fail;refine HJ8.out.mono ?_;rintro e w9 ⟨rfl, hb9⟩;have fb:=HB8.out.trans (hb9.mono HB8.out.size);have FIN:=hid (HAL2.out.trans (fb.mono HAL2.out.size));clear hb9 fb;go_wp2_with fail;go_ret;exact ⟨FIN.out, .inr ⟨N.out, rfl⟩⟩
              ·have fx : Aside _:=nX (by simp [k2]);have k2' : (k == 2) = false:=by simpa using k2
               clear nG nX HJ;go_upto_region 17 with (fail);rw [<- HW6.out];go_wp2_with fail;refine HG.out.mono ?_;rintro e w7 ⟨A7, ca7, B7, cb7, rfl, -, hb7⟩;have fb : Aside (Below w1.heap.size w1 (w7.alloc (.cells #[.int .i64 cz, .int .i64 k, .slice A7 n1 ca7, .slice B7 n2 cb7] 29))):=(HB6.out.trans (hb7.mono HB6.out.size)).alloc (Nat.le_trans HB6.out.size hb7.size) _;have b8:=Blk.new w7 29 #[.int .i64 cz, .int .i64 k, .slice A7 n1 ca7, .slice B7 n2 cb7];have e1:=b8.cell 1;simp only [qTa, qTb, qTc] at e1;clear hb7 b8;go_wp2_with fail;go_roundg g
               case measure => omega
               case rel => exact ⟨i + 1, by omega, by go_num, fb, fx⟩
           | zero =>
            have hjn : ¬ ((i : Int) < n):=by omega
            have V:=hid (Y2.out (fun q hq => hall.out q (by have:=HN.out; omega)));have HBW:=hid hbw;clear hall hbw hB;go_wp2_with fail;go_ret;exact ⟨HBW.out, .inl ⟨V.out, rfl⟩⟩
      ·have hk3 : (k3 != 1) = true:=by simpa using b1
       have N:=hid (nD (by omega));clear nD yD NOE NOF NOG YES;go_enter Tryz.func7, Tryz.ntmps7;go_wp2_with fail;go_ret;exact ⟨HAL.out, .inr ⟨N.out, rfl⟩⟩
   ·have a3' : (f.tmod 2 != 0) = true:=by rw [bne_iff_ne];exact fun e => a3 ((tmod2 f).1 e)
    have N:=hid (NOC.out (by omega) (by omega));clear NOA NOB NOC NOD NOE NOF NOG YES;go_enter Tryz.func7, Tryz.ntmps7;go_wp2_with fail;go_ret;exact ⟨HAL.out, .inr ⟨N.out, rfl⟩⟩
end Go.Proofs.YtgaemfghpibeeaaGreatDoor
namespace Go.Proofs.YtgaemfghpibeeaaGreatDoor
open Go.RowKit
def half1 (x : Ob) (i : Nat) : Ob:=⟨x.cls, x.kind, x.ws.take i ++ List.replicate (x.ws.length - i) 2, List.replicate x.bs.length 0⟩
def half2 (x : Ob) (i : Nat) : Ob:=⟨x.cls, x.kind, x.ws, x.bs.take i ++ List.replicate (x.bs.length - i) 0⟩
theorem half_set (xs : List Int) (z u : Int) (i : Nat) (h : xs[i]? = some u) : (xs.take i ++ List.replicate (xs.length - i) z).set i u = xs.take (i + 1) ++ List.replicate (xs.length - (i + 1)) z:=by
 have hl:=(List.getElem?_eq_some_iff.1 h).1;have e : xs.length - i = (xs.length - (i + 1)) + 1:=by omega
 have ht : (xs.take i).length = i:=by rw [List.length_take]; omega
 rw [e, List.replicate_succ, List.set_append_right _ _ (by omega), ht, Nat.sub_self, List.set_cons_zero, take_snoc xs i u h, List.append_assoc];rfl
theorem half1_zero {x : Ob} (h : checkM x = true) : blankM x.cls x.kind (sizeM x) = half1 x 0:=by
 obtain ⟨_, h2⟩:=checkM_parts h;rcases h2 with ⟨hk, hb, _⟩ | ⟨hk, hw, _⟩
 ·simp [blankM, half1, sizeM, hk, hb]
 ·simp [blankM, half1, sizeM, hk, hw]
theorem half1_next {x : Ob} {i : Nat} {u : Int} (h : x.ws[i]? = some u) : setW (half1 x i) i u = half1 x (i + 1):=by unfold setW half1;simp only [half_set x.ws 2 u i h]
theorem half1_all (x : Ob) : half1 x x.ws.length = half2 x 0:=by simp [half1, half2]
theorem half2_next {x : Ob} {i : Nat} {u : Int} (h : x.bs[i]? = some u) : setB (half2 x i) i u = half2 x (i + 1):=by unfold setB half2;simp only [half_set x.bs 0 u i h]
theorem half2_all (x : Ob) : half2 x x.bs.length = x:=by simp [half2]
theorem half1_len (x : Ob) {i : Nat} (h : i <= x.ws.length) : (half1 x i).ws.length = x.ws.length:=by simp [half1]; omega
theorem half2_len (x : Ob) {i : Nat} (h : i <= x.bs.length) : (half2 x i).bs.length = x.bs.length:=by simp [half2]; omega
theorem Turn.recv {s s' : Sto} {w w' : World} (h : Turn s w s' w') : s'.recv = s.recv:=by unfold Sto.recv; rw [h.blk]
theorem Turn.pick {s s' : Sto} {w w' : World} (h : Turn s w s' w') (a b : Nat) : s'.pick a b = s.pick a b:=by unfold Sto.pick; rw [h.kin]
def LoadR (s : Sto) (w0 : World) (V : List Ob) (e : Int) (w : World) : Prop :=
 (e = 0 /\ ∃ s', s'.Rep w V /\ Turn s w0 s' w) \/ (s.isL = true /\ e = 3 /\ ∃ s' V', s'.Rep w V' /\ Turn s w0 s' w)
section
variable {s : Sto} {w0 w w' : World} {V V' : List Ob} {e : Int}
end
end Go.Proofs.YtgaemfghpibeeaaGreatDoor
namespace Go.Proofs.YtgaemfghpibeeaaGreatDoor
open Go.RowKit
def LoadPost (s : Sto) (l : List Ob) (w : World) (e : Ending) (w' : World) : Prop :=
 (l.all checkM = false /\ e = .returned (.int .i64 2) /\ ∃ s', s'.Rep w' [] /\ Turn s w s' w') \/
 (l.all checkM = true /\ ∃ er : Int, e = .returned (.int .i64 er) /\ LoadR s w l er w')
def LoadX (s : Sto) (w0 : World) (V : List Ob) (e : Int) (w : World) (xb : Nat) : Prop :=
 (e = 0 /\ ∃ s', s'.Rep w V /\ Turn s w0 s' w /\ ¬ s'.set xb) \/ (s.isL = true /\ e = 3 /\ ∃ s' V', s'.Rep w V' /\ Turn s w0 s' w /\ ¬ s'.set xb)
section
variable {s s' : Sto} {w W W' wa : World} {P V V' : List Ob} {e : Int} {xb : Nat} {x : Ob}
theorem LoadX.cases (h : LoadX s w V e W xb) : e = 0 \/ e = 3:=h.imp (fun h => h.1) (fun h => h.2.1)
theorem LoadX.r (h : LoadX s w V e W xb) : LoadR s w V e W:=by
 rcases h with ⟨h0, s', h1, h2, _⟩ | ⟨h0, he, s', V', h1, h2, _⟩
 ·exact .inl ⟨h0, s', h1, h2⟩
 ·exact .inr ⟨h0, he, s', V', h1, h2⟩
theorem LoadX.ok (h : LoadX s w V 0 W xb) : ∃ s', s'.Rep W V /\ Turn s w s' W /\ ¬ s'.set xb:=by
 rcases h with ⟨_, h1⟩ | ⟨_, he, _⟩
 ·exact h1
 ·cases he
theorem LoadX.bad (h : LoadX s w V 3 W xb) (V' : List Ob) : LoadX s w V' 3 W xb:=by
 rcases h with ⟨he, _⟩ | h1
 ·cases he
 ·exact .inr h1
theorem LoadX.turn (h : LoadX s w V e W xb) : Only s.set w W:=by rcases h with ⟨_, _, _, h2, _⟩ | ⟨_, _, _, _, _, h2, _⟩ <;> exact h2.only
theorem LoadX.below (h : LoadX s w V e W xb) (hwa : Below wa.heap.size wa w) (hs : ∀ k, s.set k -> wa.heap.size <= k) : Below wa.heap.size wa W:=hwa.trans (h.turn.below hwa.size hs)
theorem LoadX.drew (h : LoadX s w V e W xb) (n : Nat) : LoadX s w V e (W.drewN n) xb:=by
 have hb:=below_drewN (Below.refl W.heap.size W) n;rcases h with ⟨h0, s', h1, h2, h3⟩ | ⟨h0, he, s', V', h1, h2, h3⟩
 ·exact .inl ⟨h0, s', Sto.below h1 hb, h2.trans (Turn.of_below hb), h3⟩
 ·exact .inr ⟨h0, he, s', V', Sto.below h1 hb, h2.trans (Turn.of_below hb), h3⟩
def NewX (s : Sto) (w : World) (P : List Ob) (x : Ob) (W : World) (xb : Nat) (e : Ending) (W' : World) : Prop :=
 ∃ o er : Int, e = .returned (.tuple #[.int .i64 o, .int .i64 er]) /\ Aside (er = 0 -> o = 2 * ((P.length : Int) + 1)) /\ Aside (LoadX s w (P ++ [half1 x 0]) er W' xb) /\ Aside (∀ t cs, Blk W xb t cs -> Blk W' xb t cs)
theorem new_step (hR : s'.Rep W P) (hT : Turn s w s' W) (hx : ¬ s'.set xb) (hxb : xb < W.heap.size) (hc : checkM x = true) (hcls : -9223372036854775808 <= x.cls /\ x.cls <= 9223372036854775807) (hP : P.length < 2000) :
  Calls Tryz.prog (s.pick 160 232) #[s.recv, .int .i64 x.cls, .int .i64 x.kind, .int .i64 (sizeM x)] W (NewX s w P x W xb):=by
 obtain ⟨h1, h2⟩:=checkM_parts hc;have hk : x.kind = 1 \/ x.kind = 2:=h2.imp (fun h => h.1) (fun h => h.1);have hn : sizeM x <= 1000:=by
  unfold sizeM;rcases h2 with ⟨a, _, b, _⟩ | ⟨a, _, b⟩
  ·rw [if_pos a]; exact b
  ·rw [if_neg (by omega), if_pos a]; exact b
 have:=Sto.new hR x.cls x.kind (sizeM x) h1 hcls hk hn hP;rw [hT.pick, hT.recv] at this;refine this.mono ?_;have hset : ∀ {s'' : Sto} {w'' : World}, Turn s' W s'' w'' -> ¬ s''.set xb:=fun t h => by
  rcases t.sub _ h with h1 | h1
  ·exact hx h1
  ·omega
 rintro e w' (⟨hl, rfl, s'', hR2, t2⟩ | ⟨rfl, s'', hR2, t2⟩)
 ·exact ⟨0, 3, rfl, fun h => by omega, .inr ⟨hT.kin ▸ hl, rfl, s'', P, hR2, hT.trans t2, hset t2⟩, fun t cs hB => hB.only t2.only hx⟩
 ·rw [half1_zero hc] at hR2;exact ⟨_, 0, rfl, fun _ => rfl, .inl ⟨rfl, s'', hR2, hT.trans t2, hset t2⟩, fun t cs hB => hB.only t2.only hx⟩
def PutX (s : Sto) (w : World) (V : List Ob) (W : World) (xb : Nat) (e : Ending) (W' : World) : Prop :=
 ∃ er : Int, e = .returned (.int .i64 er) /\ Aside (LoadX s w V er W' xb) /\ Aside (∀ t cs, Blk W xb t cs -> Blk W' xb t cs)
theorem put_fin (hT : Turn s w s' W) (hx : ¬ s'.set xb) (hxb : xb < W.heap.size) {E : Ending} (h : TurnR s' V V' W E W') : PutX s w V' W xb E W':=by
 have hset : ∀ {s'' : Sto} {w'' : World}, Turn s' W s'' w'' -> ¬ s''.set xb:=fun t h => by
  rcases t.sub _ h with h1 | h1
  ·exact hx h1
  ·omega
 rcases h with ⟨hl, rfl, s'', hR2, t2⟩ | ⟨rfl, s'', hR2, t2⟩
 ·exact ⟨3, rfl, .inr ⟨hT.kin ▸ hl, rfl, s'', V, hR2, hT.trans t2, hset t2⟩, fun t cs hB => hB.only t2.only hx⟩
 ·exact ⟨0, rfl, .inl ⟨rfl, s'', hR2, hT.trans t2, hset t2⟩, fun t cs hB => hB.only t2.only hx⟩
theorem put_step {i : Nat} {u : Int} (h : LoadX s w (P ++ [half1 x i]) 0 W xb) (hxb : xb < W.heap.size) (hi : x.ws[i]? = some u) (hk : x.kind = 1) (hu : refM u = true) :
  Calls Tryz.prog (s.pick 163 235) #[s.recv, .int .i64 (2 * ((P.length : Int) + 1)), .int .i64 i, .int .i64 u] W (PutX s w (P ++ [half1 x (i + 1)]) W xb):=by
 obtain ⟨s', hR, hT, hx⟩:=h.ok;have hil:=(List.getElem?_eq_some_iff.1 hi).1;have:=Sto.put (i:=P.length) (j:=i) (v:=half1 x i) (u:=u) hR (by simp) hk (by rw [half1_len x (by omega)]; exact hil) hu;rw [hT.pick, hT.recv, half1_next hi] at this;rw [show (P ++ [half1 x i]).set P.length (half1 x (i + 1)) = P ++ [half1 x (i + 1)] by simp] at this;exact this.mono (fun E W' h => put_fin hT hx hxb h)
theorem putb_step {i : Nat} {u : Int} (h : LoadX s w (P ++ [half2 x i]) 0 W xb) (hxb : xb < W.heap.size) (hi : x.bs[i]? = some u) (hk : x.kind = 2) (hu : 0 <= u /\ u <= 255) :
  Calls Tryz.prog (s.pick 164 236) #[s.recv, .int .i64 (2 * ((P.length : Int) + 1)), .int .i64 i, .int .i64 u] W (PutX s w (P ++ [half2 x (i + 1)]) W xb):=by
 obtain ⟨s', hR, hT, hx⟩:=h.ok;have hil:=(List.getElem?_eq_some_iff.1 hi).1;have:=Sto.putB (i:=P.length) (j:=i) (v:=half2 x i) (u:=u) hR (by simp) hk (by rw [half2_len x (by omega)]; exact hil) hu;rw [hT.pick, hT.recv, half2_next hi] at this;rw [show (P ++ [half2 x i]).set P.length (half2 x (i + 1)) = P ++ [half2 x (i + 1)] by simp] at this;exact this.mono (fun E W' h => put_fin hT hx hxb h)
end
end Go.Proofs.YtgaemfghpibeeaaGreatDoor
namespace Go.Proofs.YtgaemfghpibeeaaGreatDoor
open Go.RowKit
theorem load_any (s : Sto) (l : List Ob) (A : Option Addr) (cap : Nat) (wa w : World) (h : s.Rep w []) (hA : ObjsAt wa A l) (hwa : Below wa.heap.size wa w) (hs : ∀ k, s.set k -> wa.heap.size <= k) (hl : l.length <= 2000) :
  Calls Tryz.prog 20 #[s.val, .slice A l.length cap] w (LoadPost s l w):=by
 have hmd:=Sto.made h;have hfd:=s.finds;have hAw:=hA.below hwa;have hhas:=has49_any A l cap w hAw (by omega);rw [Sto.val_eq];obtain ⟨T, hT⟩ : ∃ T, T = s.ty:=⟨_, rfl⟩;obtain ⟨r, hr⟩ : ∃ r, r = s.recv:=⟨_, rfl⟩;obtain ⟨f1, hf1⟩ : ∃ r, r = s.pick 159 231:=⟨_, rfl⟩;obtain ⟨f2, hf2⟩ : ∃ r, r = s.pick 160 232:=⟨_, rfl⟩;obtain ⟨f3, hf3⟩ : ∃ r, r = s.pick 163 235:=⟨_, rfl⟩;obtain ⟨f4, hf4⟩ : ∃ r, r = s.pick 164 236:=⟨_, rfl⟩;rw [<- hr, <- hf1] at hmd;rw [<- hT, <- hr, <- hf1, <- hf2, <- hf3, <- hf4] at hfd;rw [<- hT, <- hr];obtain ⟨n, hn⟩ : ∃ n, n = l.length:=⟨_, rfl⟩;rw [<- hn] at hhas hl ⊢;obtain ⟨R, hR⟩ : ∃ R, R = l.all checkM:=⟨_, rfl⟩;have hhas2 : Calls Tryz.prog 49 #[.slice A n cap, .func (.func 50) #[] #[]] w fun e w' => e = .returned (.bool (!R)) /\ Below w.heap.size w w':=by rw [hR]; exact hhas
 have m1:=hfd.made;have m2:=hfd.new;have m3:=hfd.set;have m4:=hfd.setb;have g1:=hfd.cmade;have g2:=hfd.cnew;have g3:=hfd.cset;have g4:=hfd.csetb;have k2:=hfd.nnew;have k3:=hfd.nset;have k4:=hfd.nsetb;simp only [List.length_nil] at hmd;have HMD:=hid hmd;have HHAS:=hid hhas2;have HR:=hid hR;have HN:=hid hn;have H:=hid h;have HA:=hid hA;have HWA:=hid hwa;have HS:=hid hs;have HT:=hid hT;have HRR:=hid hr;have HF2:=hid hf2;have HF3:=hid hf3;have HF4:=hid hf4;clear hmd hhas hhas2 hR hn h hA hwa hs hT hr hf1 hf2 hf3 hf4 hfd hAw;go_enter Tryz.func20, Tryz.ntmps20;go_wp2_with fail;refine HMD.out.mono ?_;rintro e w1 ⟨rfl, rfl⟩;go_wp2_with fail;refine HHAS.out.mono ?_;rintro e w1 ⟨rfl, hb1⟩;have h1:=Sto.below H.out hb1;have t1 : Turn s w s w1:=Turn.of_below hb1;have H1:=hid h1;have T1:=hid t1;clear h1 t1 hb1 H HHAS HMD;cases R with
 | false => go_wp2_with fail;go_ret;exact .inl ⟨HR.out.symm, rfl, s, H1.out, T1.out⟩
 | true =>
  have fin : ∀ er W, LoadR s w l er W -> LoadPost s l w (.returned (.int .i64 er)) W:=fun er W hL => .inr ⟨HR.out.symm, er, rfl, hL⟩;have FIN:=hid fin;have hch : ∀ i x, l[i]? = some x -> checkM x = true:=fun i x hx => by have:=HR.out.symm;rw [List.all_eq_true] at this;exact this x (mem_of_getElem? hx)
  have HCH:=hid hch;have st0 : Aside (∃ s', s'.Rep w1 (l.take 0) /\ Turn s w s' w1):=⟨s, by rw [List.take_zero]; exact H1.out, T1.out⟩;clear fin hch HR H1 T1;go_wp2_with fail;go_loopg [20] n (fun gk s20 wr => ∃ j : Nat, j + gk = n /\ s20 = .int .i64 j /\ Aside (∃ s', s'.Rep wr (l.take j) /\ Turn s w s' wr))
  case atStart => exact ⟨0, by omega, rfl, st0⟩
  case round =>
   clear st0;obtain ⟨j, hj, rfl, hB⟩:=hrel;cases gk with
   | zero =>
    have hjn : ¬ ((j : Int) < n):=by omega
    have fin:=FIN.out 0 wr (.inl ⟨rfl, by obtain ⟨s', h1, h2⟩:=hB.out;rw [take_of_length_le (by have:=HN.out; omega)] at h1;exact ⟨s', h1, h2⟩⟩)
    have F:=hid fin;clear fin hB;go_wp2_with fail;go_ret;exact F.out
   | succ g =>
    have hjn : (j : Int) < n:=by omega
    obtain ⟨x, hx⟩ : ∃ x, l[j]? = some x:=⟨_, getElem?_eq_getElem (by have:=HN.out; omega)⟩;obtain ⟨s', hR, hT'⟩:=hB.out;have hwar:=HWA.out.trans (hT'.only.below HWA.out.size HS.out);obtain ⟨b, off, Aj, caj, Bj, cbj, rfl, hbl, hO, p0, p1, p2, p3⟩:=HA.out j x hx;have q0:=(hwar.cell (p:=⟨b, off + j * 4, none⟩) hbl).trans p0;have q1:=(hwar.cell (p:=⟨b, off + j * 4 + 1, none⟩) hbl).trans p1;have q2:=(hwar.cell (p:=⟨b, off + j * 4 + 2, none⟩) hbl).trans p2;have q3:=(hwar.cell (p:=⟨b, off + j * 4 + 3, none⟩) hbl).trans p3;clear p0 p1 p2 p3 hbl;have b1:=Blk.new wr 29 (obV x Aj caj Bj cbj);have hal:=(Below.refl wr.heap.size wr).alloc (Nat.le_refl _) (.cells (obV x Aj caj Bj cbj) 29);have hsz:=fun W => size_any x Aj caj Bj cbj W;unfold obV at b1 hal hsz;obtain ⟨n1, hn1⟩ : ∃ n, n = x.ws.length:=⟨_, rfl⟩;obtain ⟨n2, hn2⟩ : ∃ n, n = x.bs.length:=⟨_, rfl⟩;obtain ⟨c, hc⟩ : ∃ r, r = x.cls:=⟨_, rfl⟩;obtain ⟨k, hk⟩ : ∃ r, r = x.kind:=⟨_, rfl⟩;obtain ⟨z, hz⟩ : ∃ z, z = sizeM x:=⟨_, rfl⟩;have hnew : ∀ W, Below (wr.heap.size + 1) (wr.alloc (.cells #[.int .i64 x.cls, .int .i64 x.kind, .slice Aj x.ws.length caj, .slice Bj x.bs.length cbj] 29)) W -> Calls Tryz.prog f2 #[r, .int .i64 c, .int .i64 k, .int .i64 z] W (NewX s w (l.take j) x W wr.heap.size):=fun W hW => by have hWr:=hal.trans (hW.mono (show wr.heap.size <= wr.heap.size + 1 by omega));have hsW:=hW.size;rw [World.size_alloc] at hsW;have:=new_step (xb:=wr.heap.size) (Sto.below hR hWr) (hT'.trans (Turn.of_below hWr)) (fun hh => by have:=Sto.lt hR _ hh; omega) (by omega) (HCH.out j x hx) hO.cls (by rw [List.length_take]; omega);rw [<- HF2.out, <- HRR.out, <- hc, <- hk, <- hz] at this;exact this
    rw [<- hn1, <- hn2, <- hc, <- hk] at b1 hal hnew;rw [<- hn1, <- hn2, <- hc, <- hk, <- hz] at hsz;rw [<- hn1] at q2;rw [<- hn2] at q3;rw [<- hc] at q0;rw [<- hk] at q1;have c0:=b1.cell 0;have c1:=b1.cell 1;have c2:=b1.cell 2;have c3:=b1.cell 3;simp only [qTa, qTb, qTc] at c0 c1 c2 c3;have HNEW:=hid hnew;have HSZ:=hid hsz;have B1:=hid b1;have HX:=hid hx;have HN1:=hid hn1;have HN2:=hid hn2;have HK:=hid hk;have HO:=hid hO;clear hnew hsz b1 hx hn1 hn2 hk hc hz hO hR hT' hB hal hwar;have hP : (l.take j).length = j:=by rw [List.length_take]; have:=HN.out; omega
    have HP:=hid hP;have hjl : (l.take j) ++ [x] = l.take (j + 1):=(take_snoc l j x HX.out).symm;have HJL:=hid hjl;have hcx:=HCH.out j x HX.out;have hk1 : ∀ i u, x.ws[i]? = some u -> x.kind = 1 /\ refM u = true:=fun i u hu => by
     obtain ⟨_, ⟨h1, _, _, h2⟩ | ⟨_, h1, _⟩⟩:=checkM_parts hcx
     ·exact ⟨h1, h2 u (mem_of_getElem? hu)⟩
     ·rw [h1, List.getElem?_nil] at hu; cases hu
    have hk2 : ∀ i u, x.bs[i]? = some u -> x.kind = 2:=fun i u hu => by
     obtain ⟨_, ⟨_, h1, _⟩ | ⟨h1, _⟩⟩:=checkM_parts hcx
     ·rw [h1, List.getElem?_nil] at hu; cases hu
     ·exact h1
    have hn1b : n1 <= 1000:=by
     have:=HN1.out;obtain ⟨_, ⟨_, _, h1, _⟩ | ⟨_, h1, _⟩⟩:=checkM_parts hcx
     ·omega
     ·rw [h1] at this; simp at this; omega
    have hn2b : n2 <= 1000:=by
     have:=HN2.out;obtain ⟨_, ⟨_, h1, _⟩ | ⟨_, _, h1⟩⟩:=checkM_parts hcx
     ·rw [h1] at this; simp at this; omega
     ·omega
    have HK1:=hid hk1;have HK2:=hid hk2;obtain ⟨xb, hxb⟩ : ∃ xb, xb = wr.heap.size:=⟨_, rfl⟩;have hobw : ∀ V e W, LoadX s w V e W xb -> ObR W x Aj caj Bj cbj:=fun V e W hL => HO.out.below (hL.below HWA.out HS.out);have HOB:=hid hobw;have HXB:=hid hxb;clear hP hjl hcx hk1 hk2 hobw hxb;go_upto_region 6 with (fail);go_cut [7, 8] from 24 to 37 (fun s7 s8 wx => ∃ o er : Int, s7 = .int .i64 o /\ s8 = .int .i64 er /\ Aside (er = 0 -> o = 2 * ((j : Int) + 1)) /\ Aside (LoadX s w (l.take j ++ [half1 x 0]) er wx xb) /\ Aside (Blk wx xb 29 #[.int .i64 c, .int .i64 k, .slice Aj n1 caj, .slice Bj n2 cbj]))
    case first =>
     go_region_held3 (fun w' => w'.cell? ⟨wr.heap.size, 0, none⟩ = some (.int .i64 c) /\ w'.cell? ⟨wr.heap.size, 1, none⟩ = some (.int .i64 k) /\ w'.cell? ⟨wr.heap.size, 2, none⟩ = some (.slice Aj n1 caj) /\ w'.cell? ⟨wr.heap.size, 3, none⟩ = some (.slice Bj n2 cbj))
      (first | exact ⟨c0, c1, c2, c3⟩ | exact ⟨d0, d1, d2, d3⟩ | exact ⟨e0, e1, e2, e3⟩ | go_keep)
      (first | (go_at_call 52; refine (HSZ.out _).mono ?_; rintro e w5 ⟨rfl, hb5⟩; have y5:=B1.out.drew.keep hb5; have hw5 : Below (wr.heap.size + 1) (wr.alloc (.cells #[.int .i64 c, .int .i64 k, .slice Aj n1 caj, .slice Bj n2 cbj] 29)) w5:=(below_drewN (Below.refl _ _) 1).trans (hb5.mono (by simp)); have d0:=y5.cell 0; have d1:=y5.cell 1; have d2:=y5.cell 2; have d3:=y5.cell 3; simp only [qTa, qTb, qTc] at d0 d1 d2 d3) | (refine (HNEW.out _ hw5).mono ?_; rintro e w6 ⟨o, er, rfl, ho, hX, hkp⟩; have y6:=hkp.out _ _ y5; have e0:=y6.cell 0; have e1:=y6.cell 1; have e2:=y6.cell 2; have e3:=y6.cell 3; simp only [qTa, qTb, qTc] at e0 e1 e2 e3))
     all_goals
      have ho2 : er = 0 -> o = 2 * ((j : Int) + 1):=fun h => by have:=ho.out h; rw [HP.out] at this; exact this
      have hX2:=hX.out;rw [<- HXB.out] at hX2 y6;have fin:=(⟨ho2, hX2, y6⟩ : _ /\ _ /\ _);have FIN:=hid fin;clear ho2 hX2 y6 fin ho hX hkp HNEW HSZ;go_wp2_with fail;go_meet;exact ⟨o, er, rfl, rfl, FIN.out.1, FIN.out.2.1, FIN.out.2.2⟩
    obtain ⟨o, er, rfl, rfl, ho2, hX, Y6⟩:=hcut;have hxbl:=Y6.out.lt;clear HNEW HSZ B1 c0 c1 c2 c3 q0 q1 q2 q3;rw [<- HXB.out];go_upto_block 2 with fail
    go_cut [8, 9] from 38 to 60 (fun s8 s9 wx => ∃ er' : Int, s8 = .int .i64 er' /\ Aside (er' = 0 -> o = 2 * ((j : Int) + 1)) /\ Aside (LoadX s w (l.take j ++ [half2 x 0]) er' wx xb) /\ Aside (Blk wx xb 29 #[.int .i64 c, .int .i64 k, .slice Aj n1 caj, .slice Bj n2 cbj]))
    case first =>
     go_wp2_with fail;go_loopg [8, 9] n1 (fun gk s8 s9 wz => ∃ (i : Nat) (er' : Int), i + gk = n1 /\ s9 = .int .i64 i /\ s8 = .int .i64 er' /\ Aside (er' = 0 -> o = 2 * ((j : Int) + 1)) /\ Aside (LoadX s w (l.take j ++ [half1 x i]) er' wz xb) /\ Aside (Blk wz xb 29 #[.int .i64 c, .int .i64 k, .slice Aj n1 caj, .slice Bj n2 cbj]))
     case atStart => exact ⟨0, er, by omega, rfl, rfl, ho2, hX, Y6⟩
     case round =>
      clear hX Y6 ho2;obtain ⟨i, e', hi, rfl, rfl, ho, hX, hB⟩:=hrel;have c2:=hB.out.cell 2;simp only [qTa, qTb, qTc] at c2;rcases hX.out.cases with rfl | rfl
      ·cases gk with
       | zero =>
        have hin : ¬ ((i : Int) < n1):=by omega
        have fx : Aside (LoadX s w (l.take j ++ [half2 x 0]) 0 wr xb):=by
         have e1 : i = x.ws.length:=by have:=HN1.out; omega
         rw [<- half1_all, <- e1]; exact hX.out
        go_wp2_with fail;go_meet;exact ⟨0, rfl, fun _ => ho.out (by trivial), fx, hB⟩
       | succ g2 =>
        have hin : (i : Int) < n1:=by omega
        obtain ⟨u, hu⟩ : ∃ u, x.ws[i]? = some u:=⟨_, getElem?_eq_getElem (by have:=HN1.out; omega)⟩;obtain ⟨hk, hru⟩:=HK1.out i u hu;obtain ⟨_, bx, offx, rfl, hbl, a0⟩:=HO.out.ints i u hu;have hpt:=put_step (hX.out.drew 1) (show xb < (wr.drewN 1).heap.size from hB.out.lt) hu hk hru;rw [HP.out, <- HF3.out, <- HRR.out, <- ho.out rfl] at hpt;have hints:=fun V e W (hL : LoadX s w V e W xb) => ((hL.below HWA.out HS.out).cell (p:=⟨bx, offx + i, none⟩) hbl).trans a0;have a1:=hints _ _ _ hX.out;have HPT:=hid hpt;have HI:=hid hints;have HB:=hid hB.out;have HOO:=hid ho.out;clear hpt hints hB hX ho hu hk hru a0 hbl;go_upto_region 10 with (fail);go_region_held3 (fun w' => w'.cell? ⟨xb, 2, none⟩ = some (.slice (some ⟨bx, offx, none⟩) n1 caj) /\ w'.cell? ⟨bx, offx + i, none⟩ = some (.int .i64 u))
         (first | exact ⟨c2, a1⟩ | exact ⟨d2, d3⟩ | go_keep)
         ((refine HPT.out.mono ?_; rintro e w7 ⟨e2, rfl, hX7, hkp7⟩; have y7:=hkp7.out _ _ HB.out.drew; have d2:=y7.cell 2; simp only [qTa, qTb, qTc] at d2; have d3:=HI.out _ _ _ hX7.out))
        have fy : Aside (Blk w7 xb 29 #[.int .i64 c, .int .i64 k, .slice (some ⟨bx, offx, none⟩) n1 caj, .slice Bj n2 cbj]):=y7;have fo : Aside (e2 = 0 -> o = 2 * ((j : Int) + 1)):=fun _ => HOO.out (by trivial);clear hkp7 y7 HPT HI HB HOO c2 a1 d2 d3;go_wp2_with fail;go_roundg g2
        case measure => omega
        case rel => exact ⟨i + 1, e2, by omega, by go_num, rfl, fo, hX7, fy⟩
      ·have fx : Aside (LoadX s w (l.take j ++ [half2 x 0]) 3 wr xb):=hX.out.bad _;cases gk with
       | zero =>
        have hin : ¬ ((i : Int) < n1):=by omega
        clear hX ho;go_wp2_with fail;go_meet;exact ⟨3, rfl, fun h => absurd h (by omega), fx, hB⟩
       | succ g2 =>
        have hin : (i : Int) < n1:=by omega
        clear hX ho;go_wp2_with fail;go_meet;exact ⟨3, rfl, fun h => absurd h (by omega), fx, hB⟩
    clear hX Y6 ho2 hxbl;obtain ⟨er, rfl, ho2, hX, Y6⟩:=hcut;go_upto_block 4 with fail
    go_cut [8, 10] from 61 to 84 (fun s8 s10 wx => ∃ er' : Int, s8 = .int .i64 er' /\ Aside (LoadX s w (l.take j ++ [x]) er' wx xb))
    case first =>
     go_wp2_with fail;go_loopg [8, 10] n2 (fun gk s8 s10 wz => ∃ (i : Nat) (er' : Int), i + gk = n2 /\ s10 = .int .i64 i /\ s8 = .int .i64 er' /\ Aside (er' = 0 -> o = 2 * ((j : Int) + 1)) /\ Aside (LoadX s w (l.take j ++ [half2 x i]) er' wz xb) /\ Aside (Blk wz xb 29 #[.int .i64 c, .int .i64 k, .slice Aj n1 caj, .slice Bj n2 cbj]))
     case atStart => exact ⟨0, er, by omega, rfl, rfl, ho2, hX, Y6⟩
     case round =>
      clear hX Y6 ho2;obtain ⟨i, e', hi, rfl, rfl, ho, hX, hB⟩:=hrel;have c3:=hB.out.cell 3;simp only [qTa, qTb, qTc] at c3;rcases hX.out.cases with rfl | rfl
      ·cases gk with
       | zero =>
        have hin : ¬ ((i : Int) < n2):=by omega
        have fx : Aside (LoadX s w (l.take j ++ [x]) 0 wr xb):=by
         have e1 : i = x.bs.length:=by have:=HN2.out; omega
         have e2:=half2_all x;rw [<- e1] at e2;have:=hX.out;rw [e2] at this;exact this
        clear hX ho;go_wp2_with fail;go_meet;exact ⟨0, rfl, fx⟩
       | succ g2 =>
        have hin : (i : Int) < n2:=by omega
        obtain ⟨u, hu⟩ : ∃ u, x.bs[i]? = some u:=⟨_, getElem?_eq_getElem (by have:=HN2.out; omega)⟩;have hk:=HK2.out i u hu;obtain ⟨u0, u1, bx, offx, rfl, hbl, a0⟩:=HO.out.byts i u hu;have hw : IntKind.i64.wrap u = u:=by rw [IntKind.wrap_i64]; omega
        have hpt:=putb_step (u:=IntKind.i64.wrap u) (hX.out.drew 1) (show xb < (wr.drewN 1).heap.size from hB.out.lt) (by rw [hw]; exact hu) hk (by rw [hw]; exact ⟨u0, u1⟩);clear hw;rw [HP.out, <- HF4.out, <- HRR.out, <- ho.out rfl] at hpt;have hints:=fun V e W (hL : LoadX s w V e W xb) => ((hL.below HWA.out HS.out).cell (p:=⟨bx, offx + i, none⟩) hbl).trans a0;have a1:=hints _ _ _ hX.out;have HPT:=hid hpt;have HI:=hid hints;have HB:=hid hB.out;have HOO:=hid ho.out;clear hpt hints hB hX ho hu hk a0 hbl;go_upto_region 14 with (fail);go_region_held3 (fun w' => w'.cell? ⟨xb, 3, none⟩ = some (.slice (some ⟨bx, offx, none⟩) n2 cbj) /\ w'.cell? ⟨bx, offx + i, none⟩ = some (.int .u8 u))
         (first | exact ⟨c3, a1⟩ | exact ⟨d2, d3⟩ | go_keep)
         ((refine HPT.out.mono ?_; rintro e w7 ⟨e2, rfl, hX7, hkp7⟩; have y7:=hkp7.out _ _ HB.out.drew; have d2:=y7.cell 3; simp only [qTa, qTb, qTc] at d2; have d3:=HI.out _ _ _ hX7.out))
        have fy : Aside (Blk w7 xb 29 #[.int .i64 c, .int .i64 k, .slice Aj n1 caj, .slice (some ⟨bx, offx, none⟩) n2 cbj]):=y7;have fo : Aside (e2 = 0 -> o = 2 * ((j : Int) + 1)):=fun _ => HOO.out (by trivial);clear hkp7 y7 HPT HI HB HOO c3 a1 d2 d3;go_wp2_with fail;go_roundg g2
        case measure => omega
        case rel => exact ⟨i + 1, e2, by omega, by go_num, rfl, fo, hX7, fy⟩
      ·have fx : Aside (LoadX s w (l.take j ++ [x]) 3 wr xb):=hX.out.bad _;cases gk with
       | zero =>
        have hin : ¬ ((i : Int) < n2):=by omega
        clear hX ho;go_wp2_with fail;go_meet;exact ⟨3, rfl, fx⟩
       | succ g2 =>
        have hin : (i : Int) < n2:=by omega
        clear hX ho;go_wp2_with fail;go_meet;exact ⟨3, rfl, fx⟩
    clear hX Y6 ho2;obtain ⟨er, rfl, hX⟩:=hcut;rcases hX.out.cases with rfl | rfl
    ·have fin : Aside (∃ s', s'.Rep wc (l.take (j + 1)) /\ Turn s w s' wc):=by obtain ⟨s'', h1, h2, _⟩:=hX.out.ok;rw [HJL.out] at h1;exact ⟨s'', h1, h2⟩
     clear hX;go_wp2_with fail;go_roundg g
     case measure => omega
     case rel => exact ⟨j + 1, by omega, by go_num, fin⟩
    ·have fin:=FIN.out 3 wc ((hX.out.bad l).r);have F:=hid fin;clear hX fin;go_wp2_with fail;go_ret;exact F.out
theorem Turn.flat {P : FlP} {w w' : World} {s' : Sto} (h : Turn (.flat P) w s' w') : ∃ P', s' = .flat P' /\ P'.f = P.f:=by
 cases s' with
 | loom N NW NS p S => have:=h.kin; simp [Sto.isL] at this
 | flat P' => exact ⟨P', rfl, h.blk⟩
theorem chk_any (l : List Ob) (A : Option Addr) (cap : Nat) (f : Int) (wa w : World) (h : ObjsAt wa A l) (hwa : Below wa.heap.size wa w) (hl : l.length <= 9223372036854775807) (htab : Tabs w) :
  Calls Tryz.prog 19 #[.agg #[.slice A l.length cap, .int .i64 f]] w (ChkR l f w):=by
 have hal:=(Below.refl w.heap.size w).alloc (Nat.le_refl _) (.cells #[.slice A l.length cap, .int .i64 f] 24);have b0:=Blk.new w 24 #[.slice A l.length cap, .int .i64 f];have noA : l.length < 4 -> ¬ Valid jumpsM l f:=fun h1 h2 => by have:=h2.n4; omega
 have noB : 2000 < l.length -> ¬ Valid jumpsM l f:=fun h1 h2 => by have:=h2.n2000; omega
 have noC : ¬ ((namM f).2 = true /\ (namM f).1 <= l.length) -> ¬ Valid jumpsM l f:=fun h1 h2 => h1 h2.fr;have noD : ∀ x, l[3]? = some x -> ¬ (x.kind = 1 /\ 12 <= x.ws.length) -> ¬ Valid jumpsM l f:=fun x hx h1 h2 => h1 (h2.k3 x hx);have noE : l.all checkM = false -> ¬ Valid jumpsM l f:=fun h1 h2 => by rw [List.all_eq_false] at h1;obtain ⟨x, hx, h3⟩:=h1;exact h3 (h2.check x hx)
 have noF : ∀ x ∈ l, leAll (refsM x) l.length = false -> ¬ Valid jumpsM l f:=fun x hx h1 h2 => by rw [leAll_iff.2 (h2.named x hx)] at h1; cases h1
 have noG : ∀ x ∈ l, codedM jumpsM l x = false -> ¬ Valid jumpsM l f:=fun x hx h1 h2 => by rw [h2.coded x hx] at h1; cases h1
 have yes : 4 <= l.length -> l.length <= 2000 -> ((namM f).2 = true /\ (namM f).1 <= l.length) -> (∀ x, l[3]? = some x -> x.kind = 1 /\ 12 <= x.ws.length) -> l.all checkM = true -> (∀ i, i < l.length -> ∀ x, l[i]? = some x -> leAll (refsM x) l.length = true /\ codedM jumpsM l x = true) -> Valid jumpsM l f :=
  fun h1 h2 h3 h4 h5 h6 => ⟨h1, h2, h4, h3, List.all_eq_true.1 h5, fun x hx => by
   obtain ⟨i, hi⟩:=List.getElem?_of_mem hx;exact leAll_iff.1 (h6 i (List.getElem?_eq_some_iff.1 hi).1 x hi).1, fun x hx => by
   obtain ⟨i, hi⟩:=List.getElem?_of_mem hx;exact (h6 i (List.getElem?_eq_some_iff.1 hi).1 x hi).2⟩
 have hrow:=fun W (hb : Below w.heap.size w W) => (h.below (hwa.trans (hb.mono hwa.size)) : ObjsAt W A l);have hload:=fun P (W W' : World) (hb : Below w.heap.size w W) (hF : FlatAt W' P []) (hW : Below W.heap.size W W') (hs : ∀ k, P.set k -> W.heap.size <= k) (hl2 : l.length <= 2000) => load_any (.flat P) l A cap W W' hF (hrow W hb) hW hs hl2;have haddr:=fun (hl : 0 < l.length) => h.addr hl;have htb:=fun W (hb : Below w.heap.size w W) => htab.below hb htab.lt;have hnm:=fun W => named_any f W;obtain ⟨nm, hnmE⟩ : ∃ nm, nm = namM f:=⟨_, rfl⟩;obtain ⟨n, hn⟩ : ∃ n, n = l.length:=⟨_, rfl⟩;obtain ⟨VV, hVV⟩ : ∃ VV : Prop, VV = Valid jumpsM l f:=⟨_, rfl⟩;unfold ChkR;rw [<- hVV] at noA noB noC noD noE noF noG yes ⊢;rw [<- hnmE] at noC yes hnm;rw [<- hn] at noA noB noC noF yes hload hal b0 hl ⊢;obtain ⟨id, ok⟩:=nm;simp only at noC yes hnm;have NOA:=hid noA;have NOB:=hid noB;have NOC:=hid noC;have NOD:=hid noD;have NOE:=hid noE;have NOF:=hid noF;have NOG:=hid noG;have YES:=hid yes;have HROW:=hid hrow;have HADDR:=hid haddr;have HLOAD:=hid hload;have HTB:=hid htb;have HNM:=hid hnm;have HN:=hid hn;have HAL:=hid hal;have B0:=hid b0;have c0:=b0.cell 0;have c1:=b0.cell 1;simp only [qTa, qTb, qTc] at c0 c1;clear noA noB noC noD noE noF noG yes hrow haddr hload htb hnm hn hal b0 hVV hnmE h hwa htab;by_cases a1 : n < 4
 ·have a1' : (n : Int) < 4:=by omega
  go_enter Tryz.func19, Tryz.ntmps19;go_wp2_with fail;go_step3
  go_wp2_with fail
  try rw [Exit.noGoto_ret]
  go_ret;exact ⟨HAL.out, .inr ⟨NOA.out a1, rfl⟩⟩
 ·have a1' : ¬ ((n : Int) < 4):=by omega
  by_cases a2 : 2000 < n
  ·have a2' : (2000 : Int) < (n : Int):=by omega
   go_enter Tryz.func19, Tryz.ntmps19;go_wp2_with fail;go_step3
   go_wp2_with fail
   try rw [Exit.noGoto_ret]
   go_ret;exact ⟨HAL.out, .inr ⟨NOB.out a2, rfl⟩⟩
  ·have a2' : ¬ (2000 : Int) < (n : Int):=by omega
   obtain ⟨b, off, rfl⟩:=HADDR.out (by have:=HN.out; omega);obtain ⟨x3, hx3⟩ : ∃ x, l[3]? = some x:=⟨_, getElem?_eq_getElem (by have:=HN.out; omega)⟩;obtain ⟨A3, ca3, B3, cb3, hbl, hO3, q0, q1, q2, q3⟩:=(HROW.out _ HAL.out).row hx3;have nD:=NOD.out x3 hx3;have yD : x3.kind = 1 -> 12 <= x3.ws.length -> ∀ x, l[3]? = some x -> x.kind = 1 /\ 12 <= x.ws.length:=fun h1 h2 x hx => by rw [hx3] at hx; cases hx; exact ⟨h1, h2⟩
   obtain ⟨n3, hn3⟩ : ∃ n, n = x3.ws.length:=⟨_, rfl⟩;obtain ⟨k3, hk3⟩ : ∃ n, n = x3.kind:=⟨_, rfl⟩;rw [<- hn3] at q2;rw [<- hk3] at q1;rw [<- hn3, <- hk3] at nD yD;clear NOA NOB NOD hx3 q0 q3 hO3 hn3 hk3;by_cases b1 : k3 = 1
   ·subst b1;by_cases b2 : n3 < 12
    ·have b2' : (n3 : Int) < 12:=by omega
     have N:=hid (nD (by omega));clear nD yD NOE NOF NOG YES;go_enter Tryz.func19, Tryz.ntmps19;go_wp2_with fail;go_step3
     go_wp2_with fail
     try rw [Exit.noGoto_ret]
     go_ret;exact ⟨HAL.out, .inr ⟨N.out, rfl⟩⟩
    ·have b2' : ¬ ((n3 : Int) < 12):=by omega
     have YD:=hid (yD rfl (by omega));have nC:=NOC.out;clear nD yD;cases ok with
     | false =>
      have N:=hid (nC (by simp));clear nC NOC NOE NOF NOG YES;go_enter Tryz.func19, Tryz.ntmps19;go_wp2_with fail;go_step3
      go_wp2_with fail;refine (HNM.out _).mono ?_;rintro e w2 ⟨rfl, rfl⟩;go_wp2_with fail
      try rw [Exit.noGoto_ret]
      go_ret;exact ⟨HAL.out, .inr ⟨N.out, rfl⟩⟩
     | true =>
      by_cases a5 : (n : Int) < id
      ·have N:=hid (nC (by simp; omega));clear nC NOC NOE NOF NOG YES;go_enter Tryz.func19, Tryz.ntmps19;go_wp2_with fail;go_step3
       go_wp2_with fail;refine (HNM.out _).mono ?_;rintro e w2 ⟨rfl, rfl⟩;go_wp2_with fail
       try rw [Exit.noGoto_ret]
       go_ret;exact ⟨HAL.out, .inr ⟨N.out, rfl⟩⟩
      ·have yes:=YES.out (by omega) (by omega) ⟨rfl, by omega⟩ YD.out;have Y2:=hid yes;have hfn:=flatNew_any (w.alloc (.cells #[.slice (some ⟨b, off, none⟩) n cap, .int .i64 f] 24));have HFN:=hid hfn;clear nC NOC yes YES YD hfn;go_enter Tryz.func19, Tryz.ntmps19;go_wp2_with fail;go_step3
       go_wp2_with fail;refine (HNM.out _).mono ?_;rintro e w2 ⟨rfl, rfl⟩;go_wp2_with fail;refine HFN.out.mono ?_;rintro e w2 ⟨P, rfl, hF, hPs, hb2⟩;have hld:=HLOAD.out P _ w2 HAL.out hF hb2 hPs (by omega);have hval : (Sto.flat P).val = .iface 40 (.pointer (some ⟨P.f, 0, none⟩)):=rfl;rw [hval] at hld;have x2:=B0.out.keep hb2;have c0:=x2.cell 0;simp only [qTa, qTb] at c0;have HLD:=hid hld;have HB2:=hid hb2;have HPS:=hid hPs;clear hld hval x2 hF hb2 hPs HFN HLOAD HNM q1 q2 hbl b2 b2';go_wp2_with fail;refine HLD.out.mono ?_;rintro e w3 (⟨hch, rfl, s', hR, hT⟩ | ⟨hch, er, rfl, hL⟩)
       ·have N:=hid (NOE.out hch);have hb3:=HAL.out.trans ((HB2.out.trans (hT.only.below HB2.out.size HPS.out)).mono HAL.out.size);have HB3:=hid hb3;clear hch hR hT hb3 HLD HB2 HPS NOE NOF NOG Y2;go_wp2_with fail
        try rw [Exit.noGoto_ret]
        go_ret;exact ⟨HB3.out, .inr ⟨N.out, rfl⟩⟩
       ·have he : er = 0 /\ ∃ P', P'.f = P.f /\ FlatAt w3 P' l /\ Below (w.alloc (.cells #[.slice (some ⟨b, off, none⟩) n cap, .int .i64 f] 24)).heap.size (w.alloc (.cells #[.slice (some ⟨b, off, none⟩) n cap, .int .i64 f] 24)) w3:=by
         rcases hL with ⟨h0, s', h1, h2⟩ | ⟨h0, _⟩
         ·obtain ⟨P', rfl, h3⟩:=h2.flat;exact ⟨h0, P', h3, h1, HB2.out.trans (h2.only.below HB2.out.size HPS.out)⟩
         ·simp [Sto.isL] at h0
        obtain ⟨rfl, P', hPf, hF3, hb3⟩:=he;have hb4:=HAL.out.trans (hb3.mono HAL.out.size);have x3:=B0.out.keep hb3;have c0:=x3.cell 0;simp only [qTa, qTb] at c0;have HF3:=hid hF3;have HB4:=hid hb4;have HPF:=hid hPf;have HCH:=hid hch;have X3:=hid x3;clear hch hL hF3 hb3 hb4 hPf HLD HB2 HPS NOE x3;have y2:=Y2.out HCH.out;have Y3:=hid y2;have hcd:=fun (j : Nat) x W (hv : l[j]? = some x) (hF : FlatAt W P' l) (ht : Tabs W) => coded_any P' l j x W hF hv ht;rw [HPF.out] at hcd;have hck : ∀ j x, l[j]? = some x -> checkM x = true:=fun j x hx => by have:=HCH.out;rw [List.all_eq_true] at this;exact this x (mem_of_getElem? hx)
        have HCD:=hid hcd;have HCK:=hid hck;clear y2 Y2 hcd hck HCH HPF;go_upto_region 11 with (fail);go_step3
        go_wp2_with fail;go_loopg [7, 59] n (fun gk s7 s59 wr => ∃ j : Nat, j + gk = n /\ s59 = .int .i64 j /\ s7 = .bool true /\ Aside (Below w3.heap.size w3 wr) /\ Aside (∀ i, i < j -> ∀ x, l[i]? = some x -> leAll (refsM x) n = true /\ codedM jumpsM l x = true))
        case atStart => exact ⟨0, by omega, rfl, rfl, Below.refl _ _, fun i hi => absurd hi (by omega)⟩
        case round =>
         obtain ⟨j, hj, rfl, rfl, hB, hall⟩:=hrel;have hbw:=HB4.out.trans (hB.out.mono HB4.out.size);cases gk with
         | zero =>
          have hjn : ¬ ((j : Int) < n):=by omega
          have V:=hid (Y3.out (fun q hq => hall.out q (by have:=HN.out; omega)));have HBW:=hid hbw;clear hall hbw hB;go_wp2_with fail
          try rw [Exit.noGoto_ret]
          go_ret;exact ⟨HBW.out, .inl ⟨V.out, rfl⟩⟩
         | succ g =>
          have hjn : (j : Int) < n:=by omega
          obtain ⟨x, hx⟩ : ∃ x, l[j]? = some x:=⟨_, getElem?_eq_getElem (by have:=HN.out; omega)⟩;obtain ⟨Aj, caj, Bj, cbj, hbl, hO, q0, q1, q2, q3⟩:=(HROW.out wr hbw).row hx;have hxc:=HCK.out j x hx;have hln : x.ws.length <= 1000:=by
           obtain ⟨_, ⟨_, _, h3, _⟩ | ⟨_, h3, _⟩⟩:=checkM_parts hxc
           ·exact h3
           ·rw [h3]; simp
          have hal:=(Below.refl wr.heap.size wr).alloc (Nat.le_refl _) (.cells (obV x Aj caj Bj cbj) 29);have bx:=Blk.new wr 29 (obV x Aj caj Bj cbj);have hnm:=named47_any x Aj caj Bj cbj (n : Int) _ (hO.alloc (.cells (obV x Aj caj Bj cbj) 29)) hln;have hcd:=fun W (hb : Below w3.heap.size w3 W) => HCD.out j x W hx (HF3.out.below hb) (HTB.out W (HB4.out.trans (hb.mono HB4.out.size)));have nF:=NOF.out x (mem_of_getElem? hx);have nG:=NOG.out x (mem_of_getElem? hx);have hnx : leAll (refsM x) n = true -> codedM jumpsM l x = true -> ∀ i, i < j + 1 -> ∀ y, l[i]? = some y -> leAll (refsM y) n = true /\ codedM jumpsM l y = true:=fun h1 h2 i hi y hy => by
           rcases Nat.lt_or_ge i j with h3 | h3
           ·exact hall.out i h3 y hy
           ·have : i = j:=by omega
            subst this;rw [hx] at hy;cases hy
            exact ⟨h1, h2⟩
          unfold obV at hal bx hnm;obtain ⟨n1, hn1⟩ : ∃ n, n = x.ws.length:=⟨_, rfl⟩;obtain ⟨n2, hn2⟩ : ∃ n, n = x.bs.length:=⟨_, rfl⟩;obtain ⟨c, hc⟩ : ∃ r, r = x.cls:=⟨_, rfl⟩;obtain ⟨k, hk⟩ : ∃ r, r = x.kind:=⟨_, rfl⟩;obtain ⟨r1, hr1⟩ : ∃ r, r = leAll (refsM x) n:=⟨_, rfl⟩;obtain ⟨r2, hr2⟩ : ∃ r, r = codedM jumpsM l x:=⟨_, rfl⟩;rw [<- hn1, <- hn2, <- hc, <- hk] at hal bx hnm;rw [<- hn1] at q2;rw [<- hn2] at q3;rw [<- hc] at q0;rw [<- hk] at q1;rw [<- hr1] at hnm nF hnx;rw [<- hr2] at hcd nG hnx;have x0:=bx.cell 0;have x1:=bx.cell 1;have x2:=bx.cell 2;have x3:=bx.cell 3;simp only [qTa, qTb, qTc] at x0 x1 x2 x3;have hba:=hB.out.trans (hal.mono hB.out.size);have HNMX:=hid hnm;have HCDX:=hid hcd;have HNX:=hid hnx;have HBA:=hid hba;clear hnm hcd hnx hba hal bx hO hxc hln hn1 hn2 hc hk hr1 hr2 hall hB hbw hx;have hoop:=fun W => oop_any ((j : Int) + 1) W;rw [show oopM ((j : Int) + 1) = 2 * ((j : Int) + 1) by rw [oopM, if_neg (by omega)]] at hoop;have HOOP:=hid hoop;clear hoop;cases r1 with
          | false =>
           have N:=hid (nF rfl);clear nF nG HNX HCDX;go_wp2_with fail;refine HNMX.out.mono ?_;rintro e w5 ⟨rfl, hb5⟩;have hb6:=HBA.out.trans (hb5.mono HBA.out.size);have HB6:=hid (HB4.out.trans (hb6.mono HB4.out.size));clear hb5 hb6;go_wp2_with fail
           try rw [Exit.noGoto_ret]
           go_ret;exact ⟨HB6.out, .inr ⟨N.out, rfl⟩⟩
          | true =>
           cases r2 with
           | false =>
            have N:=hid (nG rfl);clear nF nG HNX;go_wp2_with fail;refine HNMX.out.mono ?_;rintro e w5 ⟨rfl, hb5⟩;have hb6:=HBA.out.trans (hb5.mono HBA.out.size);have hcd6:=HCDX.out w5 hb6;have HC6:=hid hcd6;have HB6:=hid (HB4.out.trans (hb6.mono HB4.out.size));clear hb5 hb6 hcd6;go_wp2_with fail;refine (HOOP.out _).mono ?_;rintro e w6 ⟨rfl, rfl⟩;go_wp2_with fail;refine HC6.out.mono ?_;rintro e w6 ⟨rfl, hb6⟩;have HB7:=hid (HB6.out.trans (hb6.mono HB6.out.size));clear hb6;go_wp2_with fail
            try rw [Exit.noGoto_ret]
            go_ret;exact ⟨HB7.out, .inr ⟨N.out, rfl⟩⟩
           | true =>
            clear nF nG;go_wp2_with fail;refine HNMX.out.mono ?_;rintro e w5 ⟨rfl, hb5⟩;have hb6:=HBA.out.trans (hb5.mono HBA.out.size);have hcd6:=HCDX.out w5 hb6;have HC6:=hid hcd6;have HB6:=hid hb6;clear hb5 hb6 hcd6;go_wp2_with fail;refine (HOOP.out _).mono ?_;rintro e w6 ⟨rfl, rfl⟩;go_wp2_with fail;refine HC6.out.mono ?_;rintro e w6 ⟨rfl, hb6⟩;have fb : Aside (Below w3.heap.size w3 w6):=HB6.out.trans (hb6.mono HB6.out.size);have fx : Aside (∀ i, i < j + 1 -> ∀ y, l[i]? = some y -> leAll (refsM y) n = true /\ codedM jumpsM l y = true):=HNX.out (by trivial) (by trivial);clear hb6 HNX;go_wp2_with fail;go_roundg g
            case measure => omega
            case rel => exact ⟨j + 1, by omega, by go_num, rfl, fb, fx⟩
   ·have hk3 : (k3 != 1) = true:=by simpa using b1
    have N:=hid (nD (by omega));clear nD yD NOE NOF NOG YES;go_enter Tryz.func19, Tryz.ntmps19;go_wp2_with fail;go_step3
    go_wp2_with fail
    try rw [Exit.noGoto_ret]
    go_ret;exact ⟨HAL.out, .inr ⟨N.out, rfl⟩⟩
def ILoadPost (s : Sto) (l : List Ob) (f : Int) (w : World) (e : Ending) (w' : World) : Prop :=
 (¬ Valid jumpsM l f /\ e = .returned (.int .i64 180) /\ ∃ s', s'.Rep w' [] /\ Turn s w s' w') \/
 (Valid jumpsM l f /\ ∃ er : Int, e = .returned (.int .i64 er) /\ LoadR s w l er w')
theorem imgload_any (s : Sto) (l : List Ob) (A : Option Addr) (cap : Nat) (f : Int) (wa w : World) (h : s.Rep w []) (hA : ObjsAt wa A l) (hwa : Below wa.heap.size wa w) (hs : ∀ k, s.set k -> wa.heap.size <= k) (hl : l.length <= 9223372036854775807) (htab : Tabs w) :
  Calls Tryz.prog 6 #[s.val, .agg #[.slice A l.length cap, .int .i64 f]] w (ILoadPost s l f w):=by
 have hal:=(Below.refl w.heap.size w).alloc (Nat.le_refl _) (.cells #[.slice A l.length cap, .int .i64 f] 24);have b0:=Blk.new w 24 #[.slice A l.length cap, .int .i64 f];have hck:=chk_any l A cap f wa (w.alloc (.cells #[.slice A l.length cap, .int .i64 f] 24)) hA (hwa.trans (hal.mono hwa.size)) hl (htab.below hal htab.lt);have hld:=fun W (hb : Below w.heap.size w W) (hl2 : l.length <= 2000) => load_any s l A cap wa W (Sto.below h hb) hA (hwa.trans (hb.mono hwa.size)) hs hl2;obtain ⟨V, hV⟩ : ∃ V, V = s.val:=⟨_, rfl⟩;rw [<- hV] at hld ⊢;obtain ⟨n, hn⟩ : ∃ n, n = l.length:=⟨_, rfl⟩;rw [<- hn] at hal b0 hck hl;have hld2 : ∀ W, Below w.heap.size w W -> l.length <= 2000 -> Calls Tryz.prog 20 #[V, .slice A n cap] W (LoadPost s l W):=by rw [hn]; exact hld
 rw [<- hn];have c0:=b0.cell 0;simp only [qTa, qTb] at c0;have hbad : ¬ Valid jumpsM l f -> ∀ W, Below w.heap.size w W -> ILoadPost s l f w (.returned (.int .i64 180)) W:=fun h1 W hb => .inl ⟨h1, rfl, s, Sto.below h hb, Turn.of_below hb⟩;have hok : Valid jumpsM l f -> ∀ W, Below w.heap.size w W -> ∀ e w', LoadPost s l W e w' -> ∃ er : Int, e = .returned (.int .i64 er) /\ ILoadPost s l f w (.returned (.int .i64 er)) w':=fun h1 W hb e w' hp => by
  rcases hp with ⟨h2, _⟩ | ⟨_, er, he, hL⟩
  ·rw [List.all_eq_true.2 h1.check] at h2; cases h2
  ·refine ⟨er, he, .inr ⟨h1, er, rfl, ?_⟩⟩;rcases hL with ⟨h0, s', h3, h4⟩ | ⟨h0, he, s', V', h3, h4⟩
   ·exact .inl ⟨h0, s', h3, (Turn.of_below hb).trans h4⟩
   ·exact .inr ⟨h0, he, s', V', h3, (Turn.of_below hb).trans h4⟩
 have HCK:=hid hck;have HLD:=hid hld2;have HAL:=hid hal;have B0:=hid b0;have HBAD:=hid hbad;have HOK:=hid hok;clear hck hld hld2 hal b0 hbad hok hn hV h hA hwa hs htab;go_enter Tryz.func6, Tryz.ntmps6;go_wp2_with fail;refine HCK.out.mono ?_;rintro e w2 ⟨hb, ⟨hv, rfl⟩ | ⟨hv, rfl⟩⟩
 ·have x0:=B0.out.keep hb;have c0:=x0.cell 0;simp only [qTa, qTb] at c0;have hb2:=HAL.out.trans (hb.mono HAL.out.size);have hl2:=HLD.out w2 hb2 hv.n2000;have HL2:=hid hl2;have HO2:=hid (HOK.out hv w2 hb2);clear x0 hb hb2 hl2 hv HCK HLD HOK HBAD;go_wp2_with fail;refine HL2.out.mono ?_;intro e w3 hp;obtain ⟨er, rfl, hfin⟩:=HO2.out e w3 hp;have F:=hid hfin;clear hfin hp HO2 HL2;go_wp2_with fail;go_ret;exact F.out
 ·have F:=hid (HBAD.out hv w2 (HAL.out.trans (hb.mono HAL.out.size)));clear hb hv HCK HLD HOK HBAD;go_wp2_with fail;go_ret;exact F.out
end Go.Proofs.YtgaemfghpibeeaaGreatDoor
namespace Go.Proofs.YtgaemfghpibeeaaGreatDoor
open Go.RowKit Go.Maps
def NearW (s : Sto) (V : List Ob) (B : Nat) (w wr : World) : Prop :=
 ∃ s' : Sto, s'.Rep wr V /\ s'.isL = s.isL /\ s'.blk = s.blk /\ (∀ k, s'.set k -> s.set k) /\ Only (fun k => s.set k \/ B <= k) w wr
section
variable {s : Sto} {V : List Ob} {B : Nat} {w wr wr' : World}
theorem NearW.start (h : s.Rep w V) : NearW s V B w w:=⟨s, h, rfl, rfl, fun _ h => h, Only.refl _ _⟩
theorem NearW.step (h : NearW s V B w wr) (hs : ∀ k, s.set k -> k < B) (ho : Only (fun k => B <= k) wr wr') : NearW s V B w wr':=by obtain ⟨s', h1, h2, h3, h4, h5⟩:=h;exact ⟨s', Sto.only h1 ho (fun k hk => by have:=hs k (h4 k hk); omega), h2, h3, h4, h5.trans (ho.mono (fun k hk => .inr hk))⟩
theorem NearW.only (h : NearW s V B w wr) : Only (fun k => s.set k \/ B <= k) w wr:=by obtain ⟨s', h1, h2, h3, h4, h5⟩:=h;exact h5
def ObjN (s : Sto) (V : List Ob) (B : Nat) (v : Ob) (w wr : World) (e : Ending) (w' : World) : Prop :=
 ∃ y, e = .returned (.tuple #[y, .int .i64 0]) /\ FreshO v wr y w' /\ NearW s V B w w' /\ Only s.set wr w'
theorem NearW.obj (h : NearW s V B w wr) {i : Nat} {v : Ob} (hv : V[i]? = some v) : Calls Tryz.prog (s.pick 162 234) #[s.recv, .int .i64 (2 * ((i : Int) + 1))] wr (ObjN s V B v w wr):=by obtain ⟨s', h1, h2, h3, h4, h5⟩:=h;have:=Sto.obj h1 hv;unfold Sto.pick Sto.recv at *;rw [h2, h3] at this;refine this.mono ?_;rintro e w' ⟨y, s'', he, hF, hR, hT, hsub⟩;exact ⟨y, he, hF, ⟨s'', hR, hT.kin.trans h2, hT.blk.trans h3, fun k hk => h4 k (hsub k hk), h5.trans ((hT.only.mono h4).mono (fun k hk => .inl hk))⟩, hT.only.mono h4⟩
end
theorem MapAt.ne {w : World} {k : TypeId} {b B : Nat} {D : DataW Value} {v : Value} {l : List Int} (h : MapAt w k b D) (ho : OwnsI w B v l) : v.ownBlock ≠ some b:=by
 intro e;obtain ⟨es, clock, hb, _⟩:=h;rcases ho.2 with ⟨rfl, _⟩ | ⟨g, cap, cur, rfl, _, hh, _⟩
 ·simp [Value.ownBlock] at e
 ·simp [Value.ownBlock] at e;subst e;rw [hb] at hh;cases hh
theorem only_grownB {w w' : World} {v : Value} {B : Nat} (h : w.grownBy w' v.ownBlock) (hv : ∀ k, v.ownBlock = some k -> B <= k) : Only (fun k => B <= k) w w' :=
 ⟨h.os, h.tape, h.output, h.size, fun g hg hs => h.block g hg (fun e => hs (hv g e.symm))⟩
theorem MapAt.grown {w w' : World} {k : TypeId} {b : Nat} {D : DataW Value} {v : Value} (h : MapAt w k b D) (hg : w.grownBy w' v.ownBlock) (hne : v.ownBlock ≠ some b) : MapAt w' k b D:=by have hlt:=h.lt;obtain ⟨es, clock, hb, F, h1, hD⟩:=h;exact ⟨es, clock, (hg.block b hlt (fun e => hne e.symm)).trans hb, F, h1, hD⟩
theorem OwnsI.onlyA {S : Nat -> Prop} {w w' : World} {B : Nat} {v : Value} {l : List Int} (h : OwnsI w B v l) (ho : Only S w w') (hs : ∀ k, v.ownBlock = some k -> ¬ S k) : OwnsI w' B v l:=by
 refine ⟨h.1, ?_⟩;rcases h.2 with h1 | ⟨g, cap, cur, rfl, hb, hh, h2⟩
 ·exact .inl h1
 ·exact .inr ⟨g, cap, cur, rfl, hb, (ho.block g (Array.getElem?_eq_some_iff.1 hh).1 (hs g rfl)).trans hh, h2⟩
def refI (T : List Nat) : List Int:=T.map fun (i : Nat) => 2 * (i : Int)
def natI (T : List Nat) : List Int:=T.map fun (i : Nat) => (i : Int)
theorem refI_snoc (T : List Nat) (i : Nat) : refI (T ++ [i]) = refI T ++ [2 * (i : Int)]:=by simp [refI]
theorem natI_snoc (T : List Nat) (i : Nat) : natI (T ++ [i]) = natI T ++ [(i : Int)]:=by simp [natI]
theorem refI_length (T : List Nat) : (refI T).length = T.length:=by simp [refI]
theorem natI_length (T : List Nat) : (natI T).length = T.length:=by simp [natI]
structure NearS (s : Sto) (V : List Ob) (B mb : Nat) (w : World) (sn out T : List Nat) (s1 s6 : Value) (wr : World) : Prop where
 todo : OwnsI wr B s1 (refI T)
 seen : OwnsI wr B s6 (natI out)
 ne : s6.ownBlock = none \/ s6.ownBlock ≠ s1.ownBlock
 map : ∃ D, MapAt wr 3 mb D /\ SeenD sn D
 st : NearW s V B w wr
section
variable {s : Sto} {V : List Ob} {B mb : Nat} {w wr wr' : World} {sn out T : List Nat} {s1 s6 v : Value}
theorem NearS.only {S : Nat -> Prop} (h : NearS s V B mb w sn out T s1 s6 wr) (ho : Only S wr wr') (hst : NearW s V B w wr') (hS : ∀ k, B <= k -> k < wr.heap.size -> ¬ S k) (hmb : B <= mb) : NearS s V B mb w sn out T s1 s6 wr':=by obtain ⟨D, hM, hD⟩:=h.map;exact ⟨h.todo.onlyA ho (fun k hk => hS k (h.todo.lt k hk).1 (h.todo.lt k hk).2), h.seen.onlyA ho (fun k hk => hS k (h.seen.lt k hk).1 (h.seen.lt k hk).2), h.ne, ⟨D, hM.keep ho (hS mb hmb hM.lt), hD⟩, hst⟩
theorem NearS.below (h : NearS s V B mb w sn out T s1 s6 wr) (hs : ∀ k, s.set k -> k < B) (hmb : B <= mb) (hb : Below wr.heap.size wr wr') : NearS s V B mb w sn out T s1 s6 wr' :=
 h.only (only_of hb (fun _ => False)) (h.st.step hs (only_of hb _)) (fun _ _ _ h => h) hmb
theorem NearS.pop {A : Option Addr} {n cap i : Nat} (h : NearS s V B mb w sn out (T ++ [i]) (.slice A n cap) s6 wr) : NearS s V B mb w sn out T (.slice A T.length cap) s6 wr:=by have h1:=h.todo;rw [refI_snoc] at h1;obtain ⟨h2, h3⟩:=h1.less;rw [refI_length] at h2 h3;exact ⟨h2, h.seen, by rw [h3]; exact h.ne, h.map, h.st⟩
theorem NearS.push {i : Nat} (h : NearS s V B mb w sn out T s1 s6 wr) (hs : ∀ k, s.set k -> k < B) (ho : OwnsI wr' B v (refI (T ++ [i]))) (hg : wr.grownBy wr' s1.ownBlock) (hp : Placed wr s1 v) : NearS s V B mb w sn out (T ++ [i]) v s6 wr':=by obtain ⟨D, hM, hD⟩:=h.map;exact ⟨ho, h.seen.beside hg h.ne, hp.beside h.seen h.ne, ⟨D, hM.grown hg (hM.ne h.todo), hD⟩, h.st.step hs (only_grownB hg (fun k hk => (h.todo.lt k hk).1))⟩
theorem NearS.told {i : Nat} (h : NearS s V B mb w sn out T s1 s6 wr) (hs : ∀ k, s.set k -> k < B) (ho : OwnsI wr' B v (natI (out ++ [i]))) (hg : wr.grownBy wr' s6.ownBlock) (hp : Placed wr s6 v) : NearS s V B mb w sn (out ++ [i]) T s1 v wr':=by
 obtain ⟨D, hM, hD⟩:=h.map;have hne : s1.ownBlock = none \/ s1.ownBlock ≠ s6.ownBlock:=by
  by_cases e : s1.ownBlock = none
  ·exact .inl e
  ·right
   rcases h.ne with h1 | h1
   ·rw [h1]; exact e
   ·exact fun e2 => h1 e2.symm
 have hne2:=hp.beside h.todo hne;refine ⟨h.todo.beside hg hne, ho, ?_, ⟨D, hM.grown hg (hM.ne h.seen), hD⟩, h.st.step hs (only_grownB hg (fun k hk => (h.seen.lt k hk).1))⟩;by_cases e : v.ownBlock = none
 ·exact .inl e
 ·right
  rcases hne2 with h1 | h1
  ·rw [h1]; exact e
  ·exact fun e2 => h1 e2.symm
theorem NearS.mark {i : Nat} {D : DataW Value} (h : NearS s V B mb w sn out T s1 s6 wr) (hs : ∀ k, s.set k -> k < B) (hmb : B <= mb) (hM0 : MapAt wr 3 mb D) (hD : SeenD sn D) (hM : MapAt wr' 3 mb (D.put (.int .i64 (i : Int)) (.held (.bool true)))) (ho : Only (fun g => g = mb) wr wr') : NearS s V B mb w (sn ++ [i]) out T s1 s6 wr':=by refine ⟨h.todo.onlyA ho (fun k hk e => hM0.ne h.todo (e ▸ hk)), h.seen.onlyA ho (fun k hk e => hM0.ne h.seen (e ▸ hk)), h.ne, ⟨_, hM, hD.new hM0 i⟩, h.st.step hs (ho.mono (fun k e => by omega))⟩
end
end Go.Proofs.YtgaemfghpibeeaaGreatDoor
namespace Go.Proofs.YtgaemfghpibeeaaGreatDoor
open Go.RowKit Go.Maps Go.Sort Go.Shelf
theorem sort_own (w : World) (B : Nat) (A : Option Addr) (cap : Nat) (l : List Int) (ho : OwnsI w B (.slice A l.length cap) l) (hsm : l.length <= 100000) :
  Calls Tryz.prog 70 #[.slice A l.length cap] w fun e w' => e = .returned (.tuple #[]) /\ OwnsI w' B (.slice A l.length cap) (l.mergeSort fun x y => decide (x <= y)) /\ w.grownBy w' (Value.slice A l.length cap).ownBlock:=by
 rcases ho.2 with ⟨h1, h0⟩ | ⟨g, cp, cur, e1, hb, hg, r1, r2, r3, r4⟩
 ·have hl : l = []:=eq_nil_of_length_eq_zero h0;subst hl;refine (AnyM.slices_Sort_int_none Tryz.sortA A cap w).mono ?_;rintro e w' ⟨rfl, rfl⟩;exact ⟨rfl, by simpa using ho, ⟨rfl, rfl, rfl, Nat.le_refl _, fun _ _ _ => rfl⟩⟩
 ·injection e1 with e1 e2 e3;subst e1;subst e3;have hH : Holds encZ w g 0 l.toArray:=holds_of_block_i hg (by simpa using r4);have hgl : g < w.heap.size:=(Array.getElem?_eq_some_iff.1 hg).1;refine (AnyM.slices_Sort_int Tryz.sortA g 0 cap l w hH hgl (by omega)).mono ?_;rintro e w' ⟨rfl, nn, os, rfl⟩;refine ⟨rfl, ?_, grownBy_sorted_i _⟩;unfold OwnsI;rw [List.length_mergeSort];exact ownsRow_sorted_i (by simp) hb hg r1 r2 r3
end Go.Proofs.YtgaemfghpibeeaaGreatDoor
namespace Go.Proofs.YtgaemfghpibeeaaGreatDoor
open Go.RowKit Go.Maps
def NearPost (s : Sto) (V : List Ob) (R : List Int) (B : Nat) (w : World) (e : Ending) (w' : World) : Prop :=
 ∃ v all, e = .returned v /\ Near V R all /\ OwnsI w' B v (natI all) /\ NearW s V B w w'
theorem NearI.length {V : List Ob} {R : List Int} {out T : List Nat} (h : NearI V R out T) (hR : R.length <= 5000) (hV : V.length <= 2000) : T.length <= 2007000 /\ out.length <= 2000:=by have h1:=h.big;have h2:=h.few;have h3 : 1001 * out.length <= 1001 * 2000:=Nat.mul_le_mul_left _ (by omega);exact ⟨by omega, by omega⟩
theorem refI_vals {V : List Ob} {R : List Int} {out T : List Nat} (h : NearI V R out T) (hV : V.length <= 2000) : ∀ x ∈ refI T, -9223372036854775808 <= x /\ x <= 9223372036854775807:=by intro x hx;obtain ⟨i, hi, rfl⟩:=List.mem_map.1 hx;have:=h.bd.1 i hi;omega
theorem refI_last (T : List Nat) (i : Nat) : (refI (T ++ [i]))[T.length]? = some (2 * (i : Int)):=by have h:=refI_length T;rw [refI_snoc, <- h, getElem?_append_right (Nat.le_refl _), Nat.sub_self];rfl
theorem Blk.neI {w : World} {g B : Nat} {t : TypeId} {cs : Array Value} {v : Value} {l : List Int} (h : Blk w g t cs) (ht : t ≠ 3) (ho : OwnsI w B v l) : v.ownBlock ≠ some g:=by
 intro e;rcases ho.2 with ⟨rfl, _⟩ | ⟨g', cap, cur, rfl, _, hh, _⟩
 ·simp [Value.ownBlock] at e
 ·simp [Value.ownBlock] at e;subst e;unfold Blk at h;rw [h] at hh;injection hh with hh;injection hh with _ h2 _;exact ht h2
theorem FreshO.only {S : Nat -> Prop} {o : Ob} {w w' w'' : World} {y : Value} (h : FreshO o w y w') (ho : Only S w' w'') (hs : ∀ k, S k -> k < w.heap.size) : FreshO o w y w'':=by obtain ⟨vW, vB, hv, hI, hB, k1, k2⟩:=h;exact ⟨vW, vB, hv, hI.only ho hs, hB.only ho hs, k1, k2⟩
theorem only_grownS {S : Nat -> Prop} {w w' : World} {v : Value} (h : w.grownBy w' v.ownBlock) (hv : ∀ k, v.ownBlock = some k -> S k) : Only S w w' :=
 ⟨h.os, h.tape, h.output, h.size, fun g hg hs => h.block g hg (fun e => hs (hv g e.symm))⟩
theorem oopM_at {e : Int} (h : 1 <= e) (h2 : e <= 2000) : oopM e = 2 * e:=by rw [oopM, if_neg (by omega)]
theorem FreshO.obr {o : Ob} {w w' : World} {A B : Option Addr} {ca cb : Nat} (h : FreshO o w (.agg (obV o A ca B cb)) w') (hc : checkM o = true) (hb : ∀ x ∈ o.bs, 0 <= x /\ x <= 255) : ObR w' o A ca B cb:=by obtain ⟨A', ca', B', cb', e, hR, _⟩:=h.parts hc hb;injection e with e;unfold obV at e;have e2:=congrArg (fun a : Array Value => a[2]?) e;have e3:=congrArg (fun a : Array Value => a[3]?) e;simp only [qTa, qTb, qTc] at e2 e3;injection e2 with e2;injection e3 with e3;injection e2 with e4 _ e5;injection e3 with e6 _ e7;rw [e4, e5, e6, e7];exact hR
theorem natI_vals {V : List Ob} {R : List Int} {out T : List Nat} (h : NearI V R out T) (hV : V.length <= 2000) : ∀ x ∈ natI out, -9223372036854775808 <= x /\ x <= 9223372036854775807:=by intro x hx;obtain ⟨i, hi, rfl⟩:=List.mem_map.1 hx;have:=h.bd.2 i hi;omega
theorem near_any (s : Sto) (V : List Ob) (T0 : List Nat) (v0 : Value) (B : Nat) (w : World) (h : s.Rep w V) (hset : ∀ k, s.set k -> k < B) (hB : B <= w.heap.size) (hn : ∀ x ∈ V, ∀ k ∈ refsM x, k <= V.length) (hvb : ∀ x ∈ V, ∀ b ∈ x.bs, 0 <= b /\ b <= 255) (hT : ∀ i ∈ T0, 1 <= i /\ i <= V.length) (hTl : T0.length <= 5000) (ho : OwnsI w B v0 (refI T0)) :
  Calls Tryz.prog 38 #[s.val, v0] w (NearPost s V (refI T0) B w):=by
 have hfd:=s.finds;have hV:=Sto.small h;have hgood:=Sto.good h;rw [Sto.val_eq];have hobj:=fun wr (hW : NearW s V B w wr) q x (hv : V[q]? = some x) => hW.obj hv;obtain ⟨TY, hTY⟩ : ∃ T, T = s.ty:=⟨_, rfl⟩;obtain ⟨r, hr⟩ : ∃ r, r = s.recv:=⟨_, rfl⟩;obtain ⟨f5, hf5⟩ : ∃ r, r = s.pick 162 234:=⟨_, rfl⟩;rw [<- hTY, <- hr, <- hf5] at hfd;rw [<- hr, <- hf5] at hobj;rw [<- hTY, <- hr];have m5:=hfd.obj;have g5:=hfd.cobj;have hmm:=@run_makeMap Tryz.prog;have hal:=(Below.refl w.heap.size w).alloc (Nat.le_refl _) (.map #[] 0);have st0 : NearS s V B w.heap.size w [] [] T0 v0 (.slice none 0 0) (w.alloc (.map #[] 0)):=by have hob:=only_of hal (fun k => B <= k);exact ⟨ho.keep hal, World.ownsRow_nil _ _ _ _, .inl rfl, ⟨_, MapAt.made w 3, SeenD.start⟩, (NearW.start h).step hset hob⟩
 have in0 : NearI V (refI T0) [] T0:=NearI.start rfl hT hV;have hRl : (refI T0).length <= 5000:=by rw [refI_length]; exact hTl
 obtain ⟨R, hR⟩ : ∃ R, R = refI T0:=⟨_, rfl⟩;rw [<- hR] at in0 hRl ⊢;have ST0:=hid st0;have IN0:=hid in0;have HOBJ:=hid hobj;have HSET:=hid hset;have HN:=hid hn;have HVB:=hid hvb;have HGOOD:=hid hgood;have HRL:=hid hRl;obtain ⟨mb, hmb⟩ : ∃ mb, mb = w.heap.size:=⟨_, rfl⟩;rw [<- hmb] at hB;have HMB:=hid hmb;clear hfd hobj st0 in0 hset hn hvb hgood hRl hT hTl ho hTY hr hf5 hal hmb hR h;go_enter Tryz.func38, Tryz.ntmps38;go_wp2_with fail;rw [<- HMB.out];have st1 : Aside (NearS s V B mb w [] [] T0 v0 (.slice none 0 0) (w.alloc (.map #[] 0))):=by rw [HMB.out]; exact ST0.out
 clear ST0;go_loopg [1, 6] (V.length * 1002 + T0.length) (fun gk s1 s6 wr => ∃ out T : List Nat, gk = (V.length - out.length) * 1002 + T.length /\ Aside (NearI V R out T) /\ Aside (NearS s V B mb w out out T s1 s6 wr))
 case atStart => exact ⟨[], T0, by simp, IN0.out, st1⟩
 case round =>
  clear st1 IN0;obtain ⟨out, T, hgk, hI, hS⟩:=hrel;obtain ⟨hTb, hob⟩:=hI.out.length HRL.out hV;obtain ⟨A, cap, e1, hlc, hc63, hInts, -⟩:=hS.out.todo.reads (refI_vals hI.out hV);rw [refI_length] at e1 hlc;subst e1;rcases List.eq_nil_or_concat T with rfl | ⟨T', i, rfl⟩
  ·obtain ⟨A6, cap6, e6, hlc6, hc6, -, -⟩:=hS.out.seen.reads (natI_vals hI.out hV);subst e6;have hso:=sort_own wr B A6 cap6 (natI out) hS.out.seen (by rw [natI_length]; omega);obtain ⟨all, hall, halll, hnear⟩:=hI.out.sorted;have hall' : ((natI out).mergeSort fun x y => decide (x <= y)) = natI all:=hall;rw [hall'] at hso;have hlb : ∀ k, (Value.slice A6 (natI out).length cap6).ownBlock = some k -> B <= k:=fun k hk => (hS.out.seen.lt k hk).1;obtain ⟨n6, hn6⟩ : ∃ n, n = (natI out).length:=⟨_, rfl⟩;rw [<- hn6] at hso hlb ⊢;have HSO:=hid hso;have HLB:=hid hlb;have HST:=hid hS.out.st;have HNEAR:=hid hnear;clear hso hlb hS hI hall hall' halll hnear hInts hn6 hlc6 hgk;simp only [List.length_nil];go_wp2_with fail;refine HSO.out.mono ?_;rintro e w5 ⟨rfl, ho5, hg5⟩;have F:=hid (⟨_, _, rfl, HNEAR.out, ho5, HST.out.step HSET.out (only_grownB hg5 HLB.out)⟩ : NearPost s V R B w (.returned (.slice A6 n6 cap6)) w5);clear ho5 hg5 HSO HST HNEAR HLB;go_wp2_with fail;go_ret;exact F.out
  ·have hib:=hI.out.bd.1 i (by simp);obtain ⟨q, rfl⟩ : ∃ q, i = q + 1:=⟨i - 1, by omega⟩;obtain ⟨x, hx⟩ : ∃ x, V[q]? = some x:=⟨_, getElem?_eq_getElem (by omega)⟩;have hxm:=mem_of_getElem? hx;have hck:=HGOOD.out x hxm;obtain ⟨k, hk⟩ : ∃ k, k = T'.length:=⟨_, rfl⟩;have hkl : (T' ++ [q + 1]).length = k + 1:=by rw [hk]; simp
   rw [List.concat_eq_append] at *;rw [hkl] at hlc hTb hgk ⊢;obtain ⟨_, b, off, rfl, hbl, c0⟩:=hInts k (2 * ((q + 1 : Nat) : Int)) (by rw [hk]; exact refI_last _ _);have eq1 : (2 * ((q + 1 : Nat) : Int)) = 2 * ((q : Int) + 1):=by omega
   rw [eq1] at c0;have hS2:=hS.out.pop;rw [<- hk] at hS2;have hob1:=HOBJ.out wr hS2.st q x hx;have hnm:=fun W => named_any (2 * ((q : Int) + 1)) W;have hnv : namM (2 * ((q : Int) + 1)) = ((q : Int) + 1, true):=by have:=namM_two (i:=q + 1) (by omega) (by omega);rw [eq1] at this;rw [this]; rfl
   rw [hnv] at hnm;have HOB1:=hid hob1;have HNM:=hid hnm;have HS2:=hid hS2;have HI:=hid hI.out;have HX:=hid hx;have HXM:=hid hxm;have HCK:=hid hck;have HK:=hid hk;have hkI : (0 : Int) < (k : Int) + 1:=by omega
   clear hob1 hnm hnv hS2 hS hI hx hxm hck hk hkl hInts eq1 hib;go_wp2_with fail;refine (HNM.out _).mono ?_;rintro e w2 ⟨rfl, rfl⟩;go_wp2_with fail;refine HOB1.out.mono ?_;rintro e w5 ⟨y, rfl, hF, hW5, hO5⟩;have hvbx:=HVB.out x HXM.out;obtain ⟨A2, ca2, B2, cb2, rfl, hR2, -, -, -, -⟩:=hF.parts HCK.out hvbx;have hmbl : mb < wr.heap.size:=by obtain ⟨D, hM, _⟩:=HS2.out.map;exact hM.lt
   have hu6 : ∀ k, Value.ownBlock u6 = some k -> k < wr.heap.size:=fun k hk => (HS2.out.seen.lt k hk).2;have hrefs:=fun W (hb : Only (fun k => k < wr.heap.size) w5 W) => refs_any x A2 ca2 B2 cb2 W ((hF.only hb (fun k h1 => h1)).obr HCK.out hvbx) (by
    obtain ⟨_, ⟨_, _, h1, _⟩ | ⟨_, h1, _⟩⟩:=checkM_parts HCK.out
    ·omega
    ·rw [h1]; simp)
   have hmS : ∃ D, MapAt wr 3 mb D /\ SeenD out D:=HS2.out.map;have hS5 : NearS s V B mb w out out T' (.slice (some ⟨b, off, none⟩) k cap) u6 w5:=by have:=HS2.out.only hO5 hW5 (fun k hk _ hs => by have:=HSET.out k hs; omega) hB;exact this
   have hb6:=(Below.refl w5.heap.size w5).alloc (Nat.le_refl _) (.cells (obV x A2 ca2 B2 cb2) 29);have hS6:=hS5.below HSET.out hB hb6;have bx:=Blk.new w5 29 (obV x A2 ca2 B2 cb2);unfold obV at hrefs hb6 hS6 bx;unfold obV;obtain ⟨n1, hn1⟩ : ∃ n, n = x.ws.length:=⟨_, rfl⟩;obtain ⟨n2, hn2⟩ : ∃ n, n = x.bs.length:=⟨_, rfl⟩;obtain ⟨xc, hxc⟩ : ∃ n, n = x.cls:=⟨_, rfl⟩;obtain ⟨xk, hxk⟩ : ∃ n, n = x.kind:=⟨_, rfl⟩;rw [<- hn1, <- hn2, <- hxc, <- hxk] at hrefs hb6 hS6 bx ⊢;obtain ⟨D, hM, hD⟩:=hS6.map;obtain ⟨lv, hrun, hlv⟩:=hM.look law3 Tryz.underlying161 (z:=.bool false) (by kernel_rfl) (keyI (a:=(q : Int) + 1) (by omega));have hdq:=hD.at_ (q + 1);have eq2 : (((q + 1 : Nat)) : Int) = (q : Int) + 1:=by omega
   rw [eq2, hlv] at hdq;injection hdq with hdq;subst hdq;have HREFS:=hid hrefs;have HU6:=hid hu6;have HB6:=hid hb6;have HS6:=hid hS6;have BX:=hid bx;have HM:=hid hM;have HD:=hid hD;clear hrefs hu6 hb6 hS6 bx hS5 hmS hvbx hF hR2 hM hD hlv eq2 hW5 hO5 hn1 hn2 hxc hxk HS2 HOB1 HNM c0;by_cases hin : q + 1 ∈ out
   ·simp only [hin, decide_true] at hrun;have fI : Aside (NearI V R out T'):=HI.out.old hin;have fS : Aside (NearS s V B mb w out out T' (.slice (some ⟨b, off, none⟩) k cap) u6 (w5.alloc (.cells #[.int .i64 xc, .int .i64 xk, .slice A2 n1 ca2, .slice B2 n2 cb2] 29))):=HS6.out;clear HI HS6 HB6 HM HD BX HREFS;go_wp2_with fail;go_roundg ((V.length - out.length) * 1002 + T'.length)
    case measure => have:=HK.out; omega
    case rel => exact ⟨out, T', rfl, fI, fS⟩
   ·simp only [hin, decide_false] at hrun;have hdsz:=HD.out.sz;obtain ⟨w7, hst, hM7, hO7⟩:=HM.out.store law3 Tryz.underlying161 (by omega) (keyI (a:=(q : Int) + 1) (by omega)) (.bool true);have eq2 : (q : Int) + 1 = ((q + 1 : Nat) : Int):=by omega
    have hS7:=HS6.out.mark (i:=q + 1) HSET.out hB HM.out HD.out (by rw [<- eq2]; exact hM7) hO7;have hb7 : Below w5.heap.size w5 w7 \/ True:=.inr trivial;have bx7:=BX.out.only hO7 (fun e => by obtain ⟨es, clock, hb, _⟩:=HM.out;have:=BX.out;unfold Blk at this;rw [e, hb] at this;cases this)
    have x0:=bx7.cell 0;have x1:=bx7.cell 1;have x2:=bx7.cell 2;have x3:=bx7.cell 3;simp only [qTa, qTb, qTc] at x0 x1 x2 x3;have hB7 : B <= w7.heap.size:=by have:=hM7.lt; omega
    clear hb7 hM7 eq2 hdsz;have HS7:=hid hS7;have BX7:=hid bx7;have hb8:=(Below.refl w7.heap.size w7).alloc (Nat.le_refl _) (.cells #[.int .i64 ((q : Int) + 1)] 3);have hS8:=hS7.below HSET.out hB hb8;have hI8:=Ints.of_blk (blk_ints w7 ((q : Int) + 1)) (by intro v hv; simp at hv; omega);have HS8:=hid hS8;have HI8:=hid hI8;clear hS7 bx7 hb8 hS8 hI8 HM HD HS6 BX;go_wp2_with (at_builtin; refine append_ints_at rfl _ _ rfl B _ (natI out) rfl HS8.out.seen _ [(q : Int) + 1] _ _ rfl rfl HI8.out (by simp) (by rw [natI_length]; simp; omega) (by rw [World.size_alloc]; omega) ?_)
    intro v9 w9 ho9 hg9 hp9;have hS9:=HS8.out.told (i:=q + 1) HSET.out (by rw [natI_snoc]; exact ho9) hg9 hp9;have bx8:=BX7.out.alloc (.cells #[.int .i64 ((q : Int) + 1)] 3);have bx9:=bx8.grown hg9 (fun e => bx8.neI (by decide) HS8.out.seen e.symm);have hO9 : Only (fun k => k < wr.heap.size) w5 w9:=(((Only.refl _ w5).alloc _).trans (hO7.mono (fun k e => by omega))).trans (((Only.refl _ w7).alloc (.cells #[.int .i64 ((q : Int) + 1)] 3)).trans (only_grownS hg9 HU6.out));have hrf:=HREFS.out w9 hO9;have x0:=bx9.cell 0;have x1:=bx9.cell 1;have x2:=bx9.cell 2;have x3:=bx9.cell 3;simp only [qTa, qTb, qTc] at x0 x1 x2 x3;have hNew:=HI.out.new hin HX.out (HN.out x HXM.out) (by
     obtain ⟨_, ⟨_, _, h1, _⟩ | ⟨_, h1, _⟩⟩:=checkM_parts HCK.out
     ·exact h1
     ·rw [h1]; simp)
    have hfew:=hNew.few;rw [length_append] at hfew;have hLb : ∀ e ∈ refsM x, 1 <= e /\ e <= 2000:=fun e he => by have:=refsM_pos x e he;have:=HN.out x HXM.out e he;omega
    have hLl : (refsM x).length <= 1001:=by
     have h2 : (refsM x).length <= (x.cls :: x.ws).length:=List.length_filterMap_le _ _;rw [List.length_cons] at h2;obtain ⟨_, ⟨_, _, h1, _⟩ | ⟨_, h1, _⟩⟩:=checkM_parts HCK.out
     ·omega
     ·rw [h1] at h2; simp at h2; omega
    obtain ⟨L, hL⟩ : ∃ L, L = refsM x:=⟨_, rfl⟩;rw [<- hL] at hrf hNew hLb hLl;have HNEW:=hid hNew;have HLB:=hid hLb;have HRF:=hid hrf;have HS9:=hid hS9;clear bx8 bx9 hO9 hrf hNew hLb hL hS9 ho9 hg9 hp9 HS8 HI8 HREFS HU6 HB6 BX7 hst hO7 hrun;go_wp2_with fail;refine HRF.out.mono ?_;rintro e w10 ⟨rv, rfl, hrv, hb10⟩;have hS10:=HS9.out.below HSET.out hB hb10;obtain ⟨A3, cap3, rfl, hlc3, hc633, hI3, -⟩:=hrv.reads (fun z hz => by have:=HLB.out z hz; omega);have st2 : Aside (NearS s V B mb w (out ++ [q + 1]) (out ++ [q + 1]) (T' ++ (L.take 0).map Int.toNat) (.slice (some ⟨b, off, none⟩) k cap) v9 w10):=by rw [List.take_zero, List.map_nil, List.append_nil]; exact hS10
    have hrn : Aside (OwnsI w10 w9.heap.size (.slice A3 L.length cap3) L /\ ((Value.slice A3 L.length cap3).ownBlock = none \/ (Value.slice A3 L.length cap3).ownBlock ≠ (Value.slice (some ⟨b, off, none⟩) k cap).ownBlock)):=by
     refine ⟨hrv, ?_⟩;by_cases e : (Value.slice A3 L.length cap3).ownBlock = none
     ·exact .inl e
     ·right
      intro e2;have h1:=(HS9.out.todo.lt b rfl).2;have h2:=(hrv.lt b (by rw [e2]; rfl)).1;omega
    obtain ⟨m, hm⟩ : ∃ m, m = L.length:=⟨_, rfl⟩;rw [<- hm] at hlc3 hrn hLl ⊢;have HM:=hid hm;clear hS10 hrv hb10 hI3 hm HRF HS9 x0 x1 x2 x3;go_wp2_with fail;go_loopg [1, 56] m (fun g2 s1 s56 wz => ∃ j : Nat, j + g2 = m /\ s56 = .int .i64 j /\ Aside (NearS s V B mb w (out ++ [q + 1]) (out ++ [q + 1]) (T' ++ (L.take j).map Int.toNat) s1 v9 wz) /\ Aside (OwnsI wz w9.heap.size (.slice A3 m cap3) L /\ ((Value.slice A3 m cap3).ownBlock = none \/ (Value.slice A3 m cap3).ownBlock ≠ s1.ownBlock)))
    case atStart => exact ⟨0, by omega, rfl, st2, hrn⟩
    case round =>
     rename_i gkO _
     clear st2 hrn;obtain ⟨j, hj, rfl, hS, hR⟩:=hrel;cases gk with
     | zero =>
      have hjn : ¬ ((j : Int) < m):=by omega
      have e1 : L.take j = L:=take_of_length_le (by have:=HM.out; omega);have fS:=hS.out;rw [e1] at fS;have FSS : Aside (NearS s V B mb w (out ++ [q + 1]) (out ++ [q + 1]) (T' ++ L.map Int.toNat) _ v9 wr):=fS;have FI : Aside (NearI V R (out ++ [q + 1]) (T' ++ L.map Int.toNat)):=HNEW.out;clear hS hR fS e1;go_wp2_with fail;go_roundg ((V.length - (out ++ [q + 1]).length) * 1002 + (T' ++ L.map Int.toNat).length)
      case measure => have h1:=HK.out;have h2:=HM.out;simp only [length_append, List.length_map, List.length_cons, List.length_nil] at hfew ⊢;omega
      case rel => exact ⟨out ++ [q + 1], T' ++ L.map Int.toNat, rfl, FI, FSS⟩
     | succ g =>
      have hjn : (j : Int) < m:=by omega
      obtain ⟨e, he⟩ : ∃ e, L[j]? = some e:=⟨_, getElem?_eq_getElem (by have:=HM.out; omega)⟩;have heb:=HLB.out e (mem_of_getElem? he);obtain ⟨A4, cap4, e4, -, -, hI4, -⟩:=(show OwnsI wr w9.heap.size (.slice A3 L.length cap3) L by rw [<- HM.out]; exact hR.out.1).reads (fun z hz => by have:=HLB.out z hz; omega);injection e4 with e4 _ e5;subst e4;subst e5;obtain ⟨_, b3, off3, rfl, _, q0⟩:=hI4 j e he;have hoop:=fun W => oop_any e W;rw [oopM_at heb.1 heb.2] at hoop;have hb5:=(Below.refl wr.heap.size wr).alloc (Nat.le_refl _) (.cells #[.int .i64 (2 * e)] 3);have hS5:=hS.out.below HSET.out hB hb5;have hI5:=Ints.of_blk (blk_ints wr (2 * e)) (by intro v hv; simp at hv; omega);have htk : T' ++ (L.take (j + 1)).map Int.toNat = (T' ++ (L.take j).map Int.toNat) ++ [e.toNat]:=by rw [take_snoc L j e he, List.map_append, List.append_assoc]; rfl
      have hlen : (refI (T' ++ (L.take j).map Int.toNat)).length <= 2010000:=by rw [refI_length, length_append, List.length_map, List.length_take];have:=HK.out;have:=HM.out;omega
      have hR5 : OwnsI (wr.alloc (.cells #[.int .i64 (2 * e)] 3)) w9.heap.size (.slice (some ⟨b3, off3, none⟩) m cap3) L:=hR.out.1.keep hb5;have hbs : B <= (wr.alloc (.cells #[.int .i64 (2 * e)] 3)).heap.size:=by rw [World.size_alloc];obtain ⟨D, hM, _⟩:=hS.out.map;have:=hM.lt;omega
      have HOOP:=hid hoop;have HS5:=hid hS5;have HI5:=hid hI5;have HTK:=hid htk;have HR5:=hid hR5;have HRN:=hid hR.out.2;have HE2 : Hid (2 * ((e.toNat : Nat) : Int) = 2 * e):=hid (by omega);obtain ⟨he1, he2⟩:=heb;clear hoop hS5 hI5 htk hR5 hR hS hI4 he hb5;go_wp2_with fail;refine (HOOP.out _).mono ?_;rintro e2 w2 ⟨rfl, rfl⟩;go_wp2_with (at_builtin; refine append_ints_at rfl _ _ rfl B _ _ rfl HS5.out.todo _ [2 * e] 1 1 rfl rfl HI5.out (by omega) (by omega) hbs ?_)
      intro v5 w6 ho6 hg6 hp6;have fS : Aside (NearS s V B mb w (out ++ [q + 1]) (out ++ [q + 1]) (T' ++ (L.take (j + 1)).map Int.toNat) v5 v9 w6):=by rw [HTK.out];refine HS5.out.push HSET.out ?_ hg6 hp6;rw [refI_snoc, HE2.out, List.map_take];exact ho6
      have fR : Aside (OwnsI w6 w9.heap.size (.slice (some ⟨b3, off3, none⟩) m cap3) L /\ ((Value.slice (some ⟨b3, off3, none⟩) m cap3).ownBlock = none \/ (Value.slice (some ⟨b3, off3, none⟩) m cap3).ownBlock ≠ v5.ownBlock)) :=
       ⟨HR5.out.beside hg6 HRN.out, hp6.beside HR5.out HRN.out⟩
      clear ho6 hg6 hp6 HS5 HI5 HTK HR5 HRN HE2 HOOP;go_wp2_with fail;go_roundg g
      case measure => omega
      case rel => exact ⟨j + 1, by omega, by go_num, fS, fR⟩
theorem ren_any (all : List Nat) (D : DataW Value) (c mb : Nat) (o : Int) (w : World) (hc : w.cell? ⟨c, 0, none⟩ = some (.map (some mb))) (hM : MapAt w 3 mb D) (hD : FreshD all all.length D) (ho : -9223372036854775808 <= o /\ o <= 9223372036854775807) :
  Calls Tryz.prog 40 #[.int .i64 o, .pointer (some ⟨c, 0, none⟩)] w fun e w' => e = .returned (.int .i64 (renM all o)) /\ w = w':=by
 have hnum:=fun W => number_any o W;obtain ⟨nm, hnm⟩ : ∃ nm, nm = numM o:=⟨_, rfl⟩;have hR : renM all o = if nm.2 then o else renF all o:=by rw [hnm]; rfl
 rw [<- hnm] at hnum;obtain ⟨h, ok⟩:=nm;simp only at hR hnum;cases ok with
 | true => rw [if_pos rfl] at hR;rw [hR];have HNUM:=hid hnum;clear hnum hR hM hD hnm hc;go_enter Tryz.func40, Tryz.ntmps40;go_wp2_with fail;refine (HNUM.out _).mono ?_;rintro e w2 ⟨rfl, rfl⟩;go_wp2_with fail;go_ret;exact ⟨rfl, rfl⟩
 | false =>
  rw [if_neg (by simp)] at hR;rw [hR];obtain ⟨v, hrun, hv⟩:=hM.look2 law3 Tryz.underlying100 (z:=.int .i64 0) (by kernel_rfl) (keyI ho);have hg:=hD.get o;have HNUM:=hid hnum;rcases hg with ⟨j, h1, h2, h3⟩ | ⟨h1, h2, h3⟩
  ·rw [h3] at hv;injection hv with hv;rw [h2, <- hv] at hrun;obtain ⟨R, hRR⟩ : ∃ R, R = renF all o:=⟨_, rfl⟩;rw [<- hRR] at hrun ⊢;clear hnum hR hM hD hnm h1 h2 h3 hv hRR;go_enter Tryz.func40, Tryz.ntmps40;go_wp2_with fail;refine (HNUM.out _).mono ?_;rintro e w2 ⟨rfl, rfl⟩;go_wp2_with fail;go_ret;exact ⟨rfl, rfl⟩
  ·rw [h3];rw [h2] at hrun;clear hnum hR hM hD hnm h1 h2 h3 hv;go_enter Tryz.func40, Tryz.ntmps40;go_wp2_with fail;refine (HNUM.out _).mono ?_;rintro e w2 ⟨rfl, rfl⟩;go_wp2_with fail;go_ret;exact ⟨rfl, rfl⟩
structure Q4 where
 o : Ob
 A : Option Addr
 ca : Nat
 B : Option Addr
 cb : Nat
def Q4.cells (q : Q4) : List Value:=[.int .i64 q.o.cls, .int .i64 q.o.kind, .slice q.A q.o.ws.length q.ca, .slice q.B q.o.bs.length q.cb]
def q4Cells (L : List Q4) : List Value:=L.flatMap Q4.cells
theorem q4Cells_get (L : List Q4) (i : Nat) (q : Q4) (h : L[i]? = some q) :
  (q4Cells L)[i * 4]? = some (.int .i64 q.o.cls) /\ (q4Cells L)[i * 4 + 1]? = some (.int .i64 q.o.kind) /\ (q4Cells L)[i * 4 + 2]? = some (.slice q.A q.o.ws.length q.ca) /\ (q4Cells L)[i * 4 + 3]? = some (.slice q.B q.o.bs.length q.cb):=by
 induction L generalizing i with
 | nil => simp at h
 | cons x L ih =>
  have e : q4Cells (x :: L) = .int .i64 x.o.cls :: .int .i64 x.o.kind :: .slice x.A x.o.ws.length x.ca :: .slice x.B x.o.bs.length x.cb :: q4Cells L:=rfl;rw [e];cases i with
  | zero => simp at h; subst h; simp
  | succ i =>
   have:=ih i (by simpa using h);rw [show (i + 1) * 4 = i * 4 + 1 + 1 + 1 + 1 by omega]
   simpa using this
structure OwnO (w : World) (B : Nat) (q : Q4) : Prop where
 r : ObR w q.o q.A q.ca q.B q.cb
 a : ∀ x, q.A = some x -> B <= x.block /\ x.block < w.heap.size
 b : ∀ x, q.B = some x -> B <= x.block /\ x.block < w.heap.size
 ta : ∀ x, q.A = some x -> ∃ cs fr, w.heap[x.block]? = some (.cells cs 3 fr)
 tb : ∀ x, q.B = some x -> ∃ cs fr, w.heap[x.block]? = some (.cells cs 5 fr)
theorem OwnO.ty {w : World} {B : Nat} {q : Q4} (h : OwnO w B q) : ∀ x, q.A = some x \/ q.B = some x -> ∃ t cs fr, w.heap[x.block]? = some (.cells cs t fr) /\ t ≠ 29:=by
 rintro x (hx | hx)
 ·obtain ⟨cs, fr, e⟩:=h.ta x hx;exact ⟨3, cs, fr, e, by decide⟩
 ·obtain ⟨cs, fr, e⟩:=h.tb x hx;exact ⟨5, cs, fr, e, by decide⟩
theorem OwnO.only {S : Nat -> Prop} {w w' : World} {B : Nat} {q : Q4} (h : OwnO w B q) (ho : Only S w w') (hS : ∀ x, q.A = some x \/ q.B = some x -> ¬ S x.block) : OwnO w' B q:=by
 obtain ⟨⟨i1, i2, i3, i4, i5, i6, i7, i8, i9, i10⟩, ha, hb, hta, htb⟩:=h;refine ⟨⟨?_, ?_, i3, i4, i5, i6, i7, i8, i9, i10⟩, fun x hx => ⟨(ha x hx).1, Nat.lt_of_lt_of_le (ha x hx).2 ho.size⟩, fun x hx => ⟨(hb x hx).1, Nat.lt_of_lt_of_le (hb x hx).2 ho.size⟩, fun x hx => by rw [ho.block x.block (ha x hx).2 (hS x (.inl hx))]; exact hta x hx, fun x hx => by rw [ho.block x.block (hb x hx).2 (hS x (.inr hx))]; exact htb x hx⟩
 ·intro j v hv;obtain ⟨h1, b, off, h2, h3, h4⟩:=i1 j v hv;refine ⟨h1, b, off, h2, Nat.lt_of_lt_of_le h3 ho.size, ?_⟩;rw [World.cell?_of_block (a:=⟨b, off + j, none⟩) (ho.block b h3 (hS _ (.inl h2)))];exact h4
 ·intro j v hv;obtain ⟨h1, h1', b, off, h2, h3, h4⟩:=i2 j v hv;refine ⟨h1, h1', b, off, h2, Nat.lt_of_lt_of_le h3 ho.size, ?_⟩;rw [World.cell?_of_block (a:=⟨b, off + j, none⟩) (ho.block b h3 (hS _ (.inr h2)))];exact h4
structure RowsO (w : World) (B : Nat) (v : Value) (L : List Q4) : Prop where
 row : w.ownsRow B 29 4 v L.length (q4Cells L)
 own : ∀ q ∈ L, OwnO w B q
 ne : ∀ q ∈ L, ∀ x, q.A = some x \/ q.B = some x -> v.ownBlock ≠ some x.block
theorem RowsO.nil (w : World) (B : Nat) : RowsO w B (.slice none 0 0) []:=⟨World.ownsRow_nil _ _ _ _, by simp, by simp⟩
theorem RowsO.lt {w : World} {B : Nat} {v : Value} {L : List Q4} (h : RowsO w B v L) : ∀ k, v.ownBlock = some k -> B <= k /\ k < w.heap.size:=h.row.lt
theorem RowsO.only {S : Nat -> Prop} {w w' : World} {B : Nat} {v : Value} {L : List Q4} (h : RowsO w B v L) (ho : Only S w w') (hS : ∀ k, B <= k -> k < w.heap.size -> ¬ S k) : RowsO w' B v L:=by
 refine ⟨⟨h.row.1, ?_⟩, fun q hq => (h.own q hq).only ho (fun x hx => ?_), h.ne⟩
 ·rcases h.row.2 with h1 | ⟨g, cap, cur, rfl, hb, hh, h2⟩
  ·exact .inl h1
  ·have hlt:=(Array.getElem?_eq_some_iff.1 hh).1;exact .inr ⟨g, cap, cur, rfl, hb, (ho.block g hlt (hS g hb hlt)).trans hh, h2⟩
 ·rcases hx with hx | hx
  ·obtain ⟨h1, h2⟩:=(h.own q hq).a x hx;exact hS _ h1 h2
  ·obtain ⟨h1, h2⟩:=(h.own q hq).b x hx;exact hS _ h1 h2
theorem RowsO.below {w w' : World} {B : Nat} {v : Value} {L : List Q4} (h : RowsO w B v L) (hb : Below w.heap.size w w') : RowsO w' B v L:=h.only (only_of hb (fun _ => False)) (fun _ _ _ h => h)
theorem RowsO.far {w w' : World} {B g : Nat} {v : Value} {L : List Q4} (h : RowsO w B v L) (ho : Only (fun k => k = g) w w') (h1 : v.ownBlock ≠ some g) (h2 : ∀ q ∈ L, ∀ x, q.A = some x \/ q.B = some x -> x.block ≠ g) : RowsO w' B v L:=by
 refine ⟨⟨h.row.1, ?_⟩, fun q hq => (h.own q hq).only ho (h2 q hq), h.ne⟩;rcases h.row.2 with h3 | ⟨g', cap, cur, rfl, hb, hh, h4⟩
 ·exact .inl h3
 ·exact .inr ⟨g', cap, cur, rfl, hb, (ho.block g' (Array.getElem?_eq_some_iff.1 hh).1 (fun e => h1 (by rw [<- e]; rfl))).trans hh, h4⟩
theorem RowsO.slice {w : World} {B : Nat} {v : Value} {L : List Q4} (h : RowsO w B v L) : ∃ A cap, v = .slice A L.length cap /\ L.length <= cap /\ cap <= 9223372036854775807 /\ (A = none -> cap = 0):=by
 rcases h.row.2 with ⟨rfl, h0⟩ | ⟨g, cap, cur, rfl, hb, hh, h1, h2, h3⟩
 ·rw [h0]; exact ⟨none, 0, rfl, by simp, by omega, fun _ => rfl⟩
 ·unfold maxLen at h2;exact ⟨_, cap, rfl, h1, h2, fun e => by cases e⟩
theorem RowsO.objs {w : World} {B : Nat} {A : Option Addr} {n cap : Nat} {L : List Q4} (h : RowsO w B (.slice A n cap) L) : ObjsAt w A (L.map (·.o)):=by
 intro j o ho;rw [List.getElem?_map] at ho;cases hq : L[j]? with
 | none => rw [hq] at ho; cases ho
 | some q =>
  rw [hq] at ho;simp at ho;subst ho;have hl:=(List.getElem?_eq_some_iff.1 hq).1;rcases h.row.2 with ⟨h1, h0⟩ | ⟨g, cap', cur, e, hb, hh, h1, h2, h3, h4⟩
  ·omega
  ·injection e with e _ _;subst e;obtain ⟨g0, g1, g2, g3⟩:=q4Cells_get L j q hq;have hc : ∀ i u, i < L.length * 4 -> (q4Cells L)[i]? = some u -> w.cell? ⟨g, 0 + i, none⟩ = some u:=fun i u hi hu => by
    rw [Nat.zero_add, cell_of_row w g i cur 29 (0, 0) hh];have : (cur.toList.take (L.length * 4))[i]? = (q4Cells L)[i]?:=by rw [h4]
    rw [List.getElem?_take, if_pos hi, hu] at this
    simpa using this
   refine ⟨g, 0, q.A, q.ca, q.B, q.cb, rfl, (Array.getElem?_eq_some_iff.1 hh).1, (h.own q (mem_of_getElem? hq)).r, ?_, ?_, ?_, ?_⟩
   ·exact hc _ _ (by omega) g0
   ·exact hc (j * 4 + 1) _ (by omega) g1
   ·exact hc (j * 4 + 2) _ (by omega) g2
   ·exact hc (j * 4 + 3) _ (by omega) g3
theorem Tryz.info29 : (Tryz.prog.info? 29).map (fun i => (i.zero, i.size, i.bytes)) = some (some (.agg #[.int .i64 0, .int .i64 0, .slice none 0 0, .slice none 0 0]), 4, 64):=by kernel_rfl
theorem append_obj {w : World} {ops : Array Oper} {rest : List Oper} {o : Oper} {a : Act} {Q : Exit -> Act -> World -> Prop} (hgd : o.guard = none) (s x : Operand)
  (ho : o.op = .call { callee:=.builtin .append, args:=#[s, x], argTypes:=#[22, 22] })
  (B : Nat) (v : Value) (L : List Q4) (hs : a.eval s = v) (hown : RowsO w B v L) (q : Q4) (g : Nat) (hx : a.eval x = .slice (some ⟨g, 0, none⟩) 1 1) (hg : Blk w g 29 q.cells.toArray) (hq : OwnO w B q)
  (hbig : L.length <= 100000) (hbase : B <= w.heap.size)
  (h : ∀ v' w', RowsO w' B v' (L ++ [q]) -> w.grownBy w' v.ownBlock -> wpList Tryz.prog ops Q rest (a.put o.dst v') w') : wpList Tryz.prog ops Q (o :: rest) a w:=by
 have hqt:=hq.ty;have hLt:=fun p (hp : p ∈ L) => (hown.own p hp).ty;obtain ⟨i0, hi, hz0, hz1, hz2⟩:=info_parts Tryz.info29;refine wpList_append_own _ hgd s x 22 ho B 29 i0 _ 4 64 Tryz.underlying22 hi hz0 hz1 hz2 rfl (by decide) v _ _ hs hown.row ⟨g, 0, none⟩ 1 1 q.cells hx rfl (fun j u hu => hg.row j u hu) ?_ (by unfold maxLen; omega) (by omega) hbase ?_
 ·intro u hu;simp only [Q4.cells, List.mem_cons, List.not_mem_nil, or_false] at hu;rcases hu with rfl | rfl | rfl | rfl <;> rfl
 ·intro v' w' h1 h2 _;refine h v' w' ⟨?_, ?_, ?_⟩ h2
  ·rw [length_append];have : q4Cells (L ++ [q]) = q4Cells L ++ q.cells:=by simp [q4Cells]
   rw [this];exact h1
  ·intro p hp;have hoo : Only (fun k => some k = v.ownBlock) w w':=only_of_row h2;have key : ∀ p : Q4, OwnO w B p -> (∀ x, p.A = some x \/ p.B = some x -> ∃ t cs fr, w.heap[x.block]? = some (.cells cs t fr) /\ t ≠ 29) -> OwnO w' B p:=fun p hp1 hp2 => by
    refine hp1.only hoo (fun x hx e => ?_);obtain ⟨t, cs, fr, hh, ht⟩:=hp2 x hx;rcases hown.row.2 with ⟨rfl, _⟩ | ⟨g', cap, cur, rfl, _, hh2, _⟩
    ·simp [Value.ownBlock] at e
    ·simp [Value.ownBlock] at e;rw [e, hh2] at hh;injection hh with hh;injection hh with _ h3 _;exact ht h3.symm
   rcases List.mem_append.1 hp with h3 | h3
   ·exact key p (hown.own p h3) (hLt p h3)
   ·rw [List.mem_singleton] at h3;subst h3;exact key p hq hqt
  ·intro p hp x hx e;have hh : ∃ t cs fr, w.heap[x.block]? = some (.cells cs t fr) /\ t ≠ 29:=by
    rcases List.mem_append.1 hp with h3 | h3
    ·exact hLt p h3 x hx
    ·rw [List.mem_singleton] at h3;subst h3;exact hqt x hx
   obtain ⟨t, cs, fr, hh, ht⟩:=hh;have hlt:=(Array.getElem?_eq_some_iff.1 hh).1;have hne : some x.block ≠ v.ownBlock:=fun e2 => by
    rcases hown.row.2 with ⟨rfl, _⟩ | ⟨g', cap, cur, rfl, _, hh2, _⟩
    ·simp [Value.ownBlock] at e2
    ·simp [Value.ownBlock] at e2;rw [e2, hh2] at hh;injection hh with hh;injection hh with _ h4 _;exact ht h4.symm
   have hkeep:=h2.block x.block hlt hne;rcases h1.2 with ⟨rfl, _⟩ | ⟨g', cap, cur, rfl, _, hh2, _⟩
   ·simp [Value.ownBlock] at e
   ·simp [Value.ownBlock] at e;rw [<- e, hh2] at hkeep;rw [<- e] at hh;rw [hh] at hkeep;injection hkeep with hkeep;injection hkeep with _ h4 _;exact ht h4.symm
end Go.Proofs.YtgaemfghpibeeaaGreatDoor
namespace Go.Proofs.YtgaemfghpibeeaaGreatDoor
open Go.RowKit Go.Maps
structure SnapM (s : Sto) (V : List Ob) (B : Nat) (w : World) (all : List Nat) (j mb cb rb : Nat) (v8 : Value) (wr : World) : Prop where
 st : NearW s V B w wr
 alls : OwnsI wr B v8 (natI all)
 cel : Blk wr cb 100 #[.map (some mb)]
 res : Blk wr rb 24 #[.slice none 0 0, .int .i64 0]
 low : B <= mb /\ B <= cb /\ B <= rb
 map : ∃ D, MapAt wr 3 mb D /\ FreshD all j D
section
variable {s : Sto} {V : List Ob} {B : Nat} {w wr wr' : World} {all : List Nat} {j mb cb rb : Nat} {v8 : Value}
theorem SnapM.only {S : Nat -> Prop} (h : SnapM s V B w all j mb cb rb v8 wr) (ho : Only S wr wr') (hst : NearW s V B w wr') (hS : ∀ k, B <= k -> k < wr.heap.size -> ¬ S k) : SnapM s V B w all j mb cb rb v8 wr':=by obtain ⟨D, hM, hD⟩:=h.map;exact ⟨hst, h.alls.onlyA ho (fun k hk => hS k (h.alls.lt k hk).1 (h.alls.lt k hk).2), h.cel.only ho (hS _ h.low.2.1 h.cel.lt), h.res.only ho (hS _ h.low.2.2 h.res.lt), h.low, ⟨D, hM.keep ho (hS _ h.low.1 hM.lt), hD⟩⟩
theorem SnapM.below (h : SnapM s V B w all j mb cb rb v8 wr) (hs : ∀ k, s.set k -> k < B) (hb : Below wr.heap.size wr wr') : SnapM s V B w all j mb cb rb v8 wr' :=
 h.only (only_of hb (fun _ => False)) (h.st.step hs (only_of hb _)) (fun _ _ _ h => h)
theorem SnapM.drewN (h : SnapM s V B w all j mb cb rb v8 wr) (hs : ∀ k, s.set k -> k < B) (n : Nat) : SnapM s V B w all j mb cb rb v8 (wr.drewN n):=h.below hs (below_drewN (Below.refl _ _) n)
theorem SnapM.more {i : Nat} {D : DataW Value} (h : SnapM s V B w all j mb cb rb v8 wr) (hs : ∀ k, s.set k -> k < B) (hr : all.Pairwise (· < ·)) (hi : all[j]? = some i) (hM0 : MapAt wr 3 mb D) (hD : FreshD all j D) (hM : MapAt wr' 3 mb (D.put (.int .i64 (2 * (i : Int))) (.held (.int .i64 (2 * ((j : Int) + 1)))))) (ho : Only (fun g => g = mb) wr wr') : SnapM s V B w all (j + 1) mb cb rb v8 wr':=by
 have hne : ∀ {t : TypeId} {cs : Array Value} {g : Nat}, Blk wr g t cs -> g ≠ mb:=fun hb e => by obtain ⟨es, clock, h2, _⟩:=hM0;unfold Blk at hb;rw [e, h2] at hb;cases hb
 exact ⟨h.st.step hs (ho.mono (fun k e => by have:=h.low.1; omega)), h.alls.onlyA ho (fun k hk e => hM0.ne h.alls (e ▸ hk)), h.cel.only ho (hne h.cel), h.res.only ho (hne h.res), h.low, ⟨_, hM, hD.new hM0 hr hi⟩⟩
end
theorem OwnsB.onlyA {S : Nat -> Prop} {w w' : World} {B : Nat} {v : Value} {l : List Int} (h : OwnsB w B v l) (ho : Only S w w') (hs : ∀ k, v.ownBlock = some k -> ¬ S k) : OwnsB w' B v l:=by
 refine ⟨h.1, ?_⟩;rcases h.2 with h1 | ⟨g, cap, cur, rfl, hb, hh, h2⟩
 ·exact .inl h1
 ·exact .inr ⟨g, cap, cur, rfl, hb, (ho.block g (Array.getElem?_eq_some_iff.1 hh).1 (hs g rfl)).trans hh, h2⟩
theorem OwnsB.ne {w : World} {B B' : Nat} {v u : Value} {l m : List Int} (h : OwnsB w B v l) (h2 : OwnsI w B' u m) : ∀ k, v.ownBlock = some k -> u.ownBlock ≠ some k:=by
 intro k e1 e2;rcases h.2 with ⟨rfl, _⟩ | ⟨g, cap, cur, rfl, _, hh, _⟩
 ·simp [Value.ownBlock] at e1
 ·rcases h2.2 with ⟨rfl, _⟩ | ⟨g', cap', cur', rfl, _, hh2, _⟩
  ·simp [Value.ownBlock] at e2
  ·simp [Value.ownBlock] at e1 e2;rw [e1] at hh;rw [e2, hh] at hh2;injection hh2 with hh2;injection hh2 with _ h4 _;cases h4
theorem ownO_of {w : World} {B : Nat} {o : Ob} {A Bx : Option Addr} {ca cb : Nat} (hI : OwnsI w B (.slice A o.ws.length ca) o.ws) (hB : OwnsB w B (.slice Bx o.bs.length cb) o.bs) (hc : checkM o = true) (hb : ∀ x ∈ o.bs, 0 <= x /\ x <= 255) : OwnO w B ⟨o, A, ca, Bx, cb⟩:=by
 have hbd:=checkM_bd hc;have b1:=hbd o.cls (by simp);have b2:=hbd o.kind (by simp);obtain ⟨A', ca', e1, h1, h2, h3, h4⟩:=hI.reads (fun x hx => by have:=hbd x (by simp [hx]); omega);obtain ⟨B', cb', e2, h5, h6, h7, h8⟩:=hB.reads2 hb;injection e1 with e1 _ e3;injection e2 with e2 _ e4;subst e1;subst e2;subst e3;subst e4;refine ⟨⟨h3, h7, h1, h5, h2, h6, h4, h8, by dsimp only; omega, by dsimp only; omega⟩, fun x hx => ?_, fun x hx => ?_, fun x hx => ?_, fun x hx => ?_⟩
 ·have hx' : A = some x:=hx;subst hx';exact hI.lt _ rfl
 ·have hx' : Bx = some x:=hx;subst hx';exact hB.lt _ rfl
 ·have hx' : A = some x:=hx;subst hx';rcases hI.2 with ⟨e, _⟩ | ⟨g, cap, cur, e, _, hh, _⟩
  ·cases e
  ·injection e with e _ _;injection e with e;subst e;exact ⟨cur, _, hh⟩
 ·have hx' : Bx = some x:=hx;subst hx';rcases hB.2 with ⟨e, _⟩ | ⟨g, cap, cur, e, _, hh, _⟩
  ·cases e
  ·injection e with e _ _;injection e with e;subst e;exact ⟨cur, _, hh⟩
theorem size24 : (Tryz.prog.info? 24).map (·.size) = some 2:=by kernel_rfl
def halfR (all : List Nat) (ws : List Int) (i : Nat) : List Int:=(ws.take i).map (renM all) ++ ws.drop i
theorem halfR_zero (all : List Nat) (ws : List Int) : halfR all ws 0 = ws:=by simp [halfR]
theorem halfR_all (all : List Nat) (ws : List Int) : halfR all ws ws.length = ws.map (renM all):=by simp [halfR]
theorem halfR_length (all : List Nat) (ws : List Int) {i : Nat} (h : i <= ws.length) : (halfR all ws i).length = ws.length:=by simp [halfR]; omega
theorem halfR_get (all : List Nat) (ws : List Int) {i : Nat} {v : Int} (h : ws[i]? = some v) : (halfR all ws i)[i]? = some v:=by
 have hl:=(List.getElem?_eq_some_iff.1 h).1;have e : ((ws.take i).map (renM all)).length = i:=by simp; omega
 unfold halfR;rw [getElem?_append_right (by omega), e, Nat.sub_self, List.getElem?_drop];exact h
theorem halfR_set (all : List Nat) (ws : List Int) {i : Nat} {v : Int} (h : ws[i]? = some v) : (halfR all ws i).set i (renM all v) = halfR all ws (i + 1):=by
 have hl:=(List.getElem?_eq_some_iff.1 h).1;have e : ((ws.take i).map (renM all)).length = i:=by simp; omega
 unfold halfR;rw [List.set_append_right _ _ (by omega), e, Nat.sub_self, take_snoc ws i v h, List.map_append, List.append_assoc]
 congr 1;have hd : ws.drop i = v :: ws.drop (i + 1):=by
  rw [List.drop_eq_getElem_cons hl]
  congr 1;rw [getElem?_eq_getElem hl] at h;exact Option.some.inj h
 rw [hd];rfl
theorem FreshO.owns {o : Ob} {w w' : World} {A B : Option Addr} {ca cb : Nat} (h : FreshO o w (.agg (obV o A ca B cb)) w') : OwnsI w' w.heap.size (.slice A o.ws.length ca) o.ws /\ OwnsB w' w.heap.size (.slice B o.bs.length cb) o.bs:=by obtain ⟨vW, vB, hv, hI, hB, -, -⟩:=h;injection hv with e;unfold obV at e;have e2:=congrArg (fun a : Array Value => a[2]?) e;have e3:=congrArg (fun a : Array Value => a[3]?) e;simp only [qTa, qTb, qTc] at e2 e3;injection e2 with e2;injection e3 with e3;subst e2;subst e3;exact ⟨hI, hB⟩
def ToldO (s : Sto) (V : List Ob) (w : World) (x : Ob) (wr : World) (ob : Nat) (A : Option Addr) (ca : Nat) (B : Option Addr) (cb : Nat) (wx : World) : Prop :=
 Blk wx ob 29 (obV x A ca B cb) /\ OwnsI wx wr.heap.size (.slice A x.ws.length ca) x.ws /\ OwnsB wx wr.heap.size (.slice B x.bs.length cb) x.bs /\ NearW s V w.heap.size w wx /\ Only s.set wr wx /\ wr.heap.size <= ob
theorem told_a {s : Sto} {V : List Ob} {w wr w6 : World} {x : Ob} {A B : Option Addr} {ca cb : Nat} (hset : ∀ k, s.set k -> k < w.heap.size) (hF : FreshO x wr.drew (.agg (obV x A ca B cb)) w6) (hW : NearW s V w.heap.size w w6) (hO : Only s.set wr.drew w6) : ToldO s V w x wr w6.heap.size A ca B cb (w6.alloc (.cells (obV x A ca B cb) 29)):=by obtain ⟨h1, h2⟩:=hF.owns;have hb:=(Below.refl w6.heap.size w6).alloc (Nat.le_refl _) (.cells (obV x A ca B cb) 29);have hO' : Only s.set wr w6:=(only_drew _ wr).trans hO;exact ⟨Blk.new w6 29 _, h1.keep hb, h2.keep hb, hW.step hset (only_of hb _), hO'.trans (only_of hb _), hO'.size⟩
theorem told_b {s : Sto} {V : List Ob} {w wr w6 : World} {x : Ob} {A B : Option Addr} {ca cb : Nat} (hset : ∀ k, s.set k -> k < w.heap.size) (hw : w.heap.size <= wr.heap.size) (hF : FreshO x (wr.alloc (.cells zeroO 29)).drew (.agg (obV x A ca B cb)) w6) (hW : NearW s V w.heap.size w w6) (hO : Only s.set (wr.alloc (.cells zeroO 29)).drew w6) :
  ToldO s V w x wr wr.heap.size A ca B cb ((((w6.setCell ⟨wr.heap.size, 0, none⟩ (.int .i64 x.cls)).setCell ⟨wr.heap.size, 1, none⟩ (.int .i64 x.kind)).setCell ⟨wr.heap.size, 2, none⟩ (.slice A x.ws.length ca)).setCell ⟨wr.heap.size, 3, none⟩ (.slice B x.bs.length cb)):=by
 obtain ⟨h1, h2⟩:=hF.owns;have hs : (wr.alloc (.cells zeroO 29)).drew.heap.size = wr.heap.size + 1:=by
  show (wr.alloc (.cells zeroO 29)).heap.size = _
  simp
 rw [hs] at h1 h2;have h4:=only_four w6 wr.heap.size (.int .i64 x.cls) (.int .i64 x.kind) (.slice A x.ws.length ca) (.slice B x.bs.length cb);have y6 : Blk w6 wr.heap.size 29 zeroO:=(Blk.new wr 29 zeroO).drew.only hO (fun e => by have:=hset _ e; omega);have hO' : Only s.set wr w6:=(((Only.refl s.set wr).alloc _).trans (only_drew _ _)).trans hO;exact ⟨y6.set1111 _ _ _ _, (h1.only h4 (fun g e => by omega)).mono (by omega) |> fun h => h, (h2.only h4 (fun g e => by omega)).mono (by omega), hW.step hset (h4.mono (fun k e => by omega)), hO'.then_ h4 (fun g e => .inr (by omega)), Nat.le_refl _⟩
end Go.Proofs.YtgaemfghpibeeaaGreatDoor
