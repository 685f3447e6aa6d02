/-
  A heap as a whole; a clock; a table of names. Conditions: each theorem names its own.
-/
import Derived.Test.YtgaemfghpibeeaaGreatDoorPk06
set_option maxRecDepth 100000
set_option maxHeartbeats 6000000
open Go.Lib (hid)
open List (getElem?_eq_getElem mem_of_getElem? getElem?_append_left getElem?_append_right getD_eq_getElem?_getD eq_nil_of_length_eq_zero getElem?_eq_none_iff length_replicate take_of_length_le length_set length_append)
namespace Go.Proofs.YtgaemfghpibeeaaGreatDoor
open Go.RowKit
theorem HpMem.putRow {w : World} {P : HpP} {mem : List Int} {bs : List Hb} (h : HpMem w P mem bs) (mem2 : List Int) (hl : mem2.length = mem.length) : HpMem (w.setRow P.m (wCells mem2)) P mem2 bs:=by
 have ho:=only_setRow w P.m (wCells mem2);refine ⟨?_, h.words.setRow _, ?_, h.apart⟩
 ·rw [hl]; exact h.head.only ho h.apart.1
 ·refine ⟨h.row.1, h.row.2.imp id ?_⟩;rintro ⟨g, cap, cur, hv, h1, h2, h3⟩;refine ⟨g, cap, cur, hv, h1, (ho.block g (Array.getElem?_eq_some_iff.1 h2).1 ?_).trans h2, h3⟩;rintro rfl;have:=congrArg Value.ownBlock hv;unfold HpP.row at this;cases hb : P.b with
  | none => rw [hb] at this; simp [Value.ownBlock] at this
  | some k => rw [hb] at this;simp [Value.ownBlock] at this;exact h.apart.2.2 (by rw [hb, this])
theorem HpMem.setAt {w : World} {P : HpP} {mem : List Int} {bs : List Hb} (h : HpMem w P mem bs) {k : Nat} {x : Hb} (hx : bs[k]? = some x) {g : Nat} (hg : P.b = some g) (b : Nat) :
  HpMem (w.setCell ⟨g, k * 3, none⟩ (.int .i64 (b : Int))) P mem (bs.set k { x with at_:=b }):=by
 have h1 : g ≠ P.h:=fun e => h.apart.2.1 (by rw [hg, e]);have h2 : g ≠ P.m:=fun e => h.apart.2.2 (by rw [hg, e]);refine ⟨?_, ?_, ?_, h.apart⟩
 ·rw [length_set]; exact h.head.far (p:=⟨g, k * 3, none⟩) (Ne.symm h1) _
 ·exact h.words.far (p:=⟨g, k * 3, none⟩) (Ne.symm h2) _
 ·rw [length_set];have hr:=h.row;unfold HpP.row at hr ⊢;rw [hg] at hr ⊢;have:=(World.ownsRow.stored hr (k * 3) (.int .i64 (b : Int))).1;rw [hbCells_set_at bs k x b hx] at this;exact this
theorem run_copy_words (w : World) (P : HpP) (mem : List Int) (bs : List Hb) (h : HpMem w P mem bs) (ty : TypeId) (to_ at_ n dc sc : Nat) (h1 : to_ + n <= mem.length) (h2 : at_ + n <= mem.length) (dl : Nat) (hdl : n <= dl) :
  (Builtin.copy_ #[113, 113] ty #[.slice (some ⟨P.m, to_, none⟩) dl dc, .slice (some ⟨P.m, at_, none⟩) n sc]).run Tryz.prog w = .ok (.int .i64 (n : Int)) (w.setRow P.m (wCells (putW mem to_ ((mem.drop at_).take n)))):=by
 have hsz : (Tryz.prog.info? 25).map (·.size) = some 1:=by kernel_rfl
 have hlen : (((mem.drop at_).take n).map (Value.int .u16)).length = n:=by simp; omega
 have hsrc : ∀ j v, (((mem.drop at_).take n).map (Value.int .u16))[j]? = some v -> w.cell? ((⟨P.m, at_, none⟩ : Addr).add j) = some v:=by
  intro j v hv;have hj:=(List.getElem?_eq_some_iff.1 hv).1;have hadd : (⟨P.m, at_, none⟩ : Addr).add j = ⟨P.m, at_ + j, none⟩:=by unfold Addr.add; split <;> simp_all
  rw [hadd, h.words.cell];rw [hlen] at hj;rw [List.getElem?_map, List.getElem?_take, if_pos hj, List.getElem?_drop] at hv;simp only [wCells, qTa, List.getElem?_map];exact hv
 have hr:=run_copy_row (P:=Tryz.prog) w 113 113 ty 25 P.m to_ dl dc ⟨P.m, at_, none⟩ n sc (wCells mem) 25 (((mem.drop at_).take n).map (Value.int .u16)) Tryz.underlying113 hsz h.words (by rw [hlen]; exact (Nat.min_eq_left hdl).symm) hsrc (by rw [hlen]; simp [wCells]; omega)
  (by intro v hv; obtain ⟨x, _, rfl⟩:=List.mem_map.1 hv; rfl)
 rw [hr, hlen];have hl2 : ((mem.drop at_).take n).length = n:=by simp; omega
 have e : ((wCells mem).toList.take to_ ++ ((mem.drop at_).take n).map (Value.int .u16) ++ (wCells mem).toList.drop (to_ + n)).toArray = wCells (putW mem to_ ((mem.drop at_).take n)):=by unfold putW;rw [hl2];simp [wCells]
 rw [e];rfl
def CompPost (P : HpP) (mem : List Int) (bs : List Hb) (w : World) (e : Ending) (w' : World) : Prop :=
 ∃ (n : Int) (mem1 : List Int) (bs1 : List Hb), e = .returned (.int .i64 n) /\ HpAt w' P mem1 bs1 /\ Compacted mem bs mem1 bs1 /\ Only P.set w w'
theorem compact_any (P : HpP) (mem : List Int) (bs : List Hb) (w : World) (h : HpAt w P mem bs) :
  Calls Tryz.prog 217 #[.pointer (some ⟨P.h, 0, none⟩)] w (CompPost P mem bs w):=by
 have hsm : ∀ x ∈ bs, x.at_ <= 32768:=fun x hx => by have:=h.fit x hx; have:=h.size; omega
 have HOR:=hid (order_any P mem bs w h.base h.lt h.count hsm);have H:=hid h;have hN:=h.size;obtain ⟨N, hNN⟩ : ∃ N, N = mem.length:=⟨_, rfl⟩;rw [<- hNN] at hN;have HN:=hid hNN;have hc:=h.count;clear h hsm hNN;go_enter Tryz.func217, Tryz.ntmps217;go_wp2_with fail;refine HOR.out.mono ?_;rintro e w1 ⟨v, ks, rfl, hord, ho, hb⟩;have hkl:=hord.len;have hw : ∀ k ∈ zI ks, -9223372036854775808 <= k /\ k <= 9223372036854775807:=by intro k hk;simp [zI] at hk;obtain ⟨n, hn, rfl⟩:=hk;have:=(hord.lt n hn).1;omega
 obtain ⟨A, cap, rfl, h1, h2, h3, h4⟩:=ho.reads hw;have hAP : ∀ b off, A = some ⟨b, off, none⟩ -> ¬ P.set b:=by intro b off hA hP;subst hA;have h5:=(ho.lt b rfl).1;have h6:=H.out.lt b hP;omega
 have hlz : (zI ks).length = ks.length:=by simp [zI]
 rw [hlz];rw [hlz] at h1;obtain ⟨n, hn⟩ : ∃ n, n = ks.length:=⟨_, rfl⟩;rw [<- hn] at h1 hkl ⊢;have HK:=hid hn;have HI:=hid h3;have HB:=hid hb;have HD:=hid hord;have HAP:=hid hAP;have hz:=hb.size;have hn9 : n <= 1000:=by omega
 have hM0:=H.out.base.only (only_of hb (fun _ => False)) (fun _ _ h => h);have HM0:=hid hM0;clear hn ho h3 hb hord hw h4 hlz hAP hM0;go_wp2_with fail;go_loopg [3, 4, 14] n (fun gk s3 s4 s14 wr => ∃ (j m e : Nat) (mem1 : List Int) (bs1 : List Hb), j + gk = n /\ m <= j /\ s3 = .int .i64 m /\ s14 = .int .i64 j /\ s4 = .int .i64 e /\ e <= N /\ Aside (HpMem wr P mem1 bs1) /\ Aside (CInv mem bs (ks.take j) (ks.drop j) mem1 bs1 e) /\ Only P.set w1 wr)
 case atStart => exact ⟨0, 0, 0, mem, bs, by omega, by omega, rfl, rfl, rfl, by omega, HM0.out, by rw [List.take_zero, List.drop_zero]; exact CInv.start mem bs ks H.out.vals, Only.refl _ _⟩
 case round =>
  obtain ⟨j, m, e, mem1, bs1, hj, hmj, rfl, rfl, rfl, heN, hM1, hC, hO⟩:=hrel;have HM1 : Hid (HpMem wr P mem1 bs1):=hid hM1.out;have HC : Hid (CInv mem bs (ks.take j) (ks.drop j) mem1 bs1 e):=hid hC.out;have HO:=hid hO;cases gk with
  | zero =>
   have hjn : ¬ ((j : Int) < (n : Int)):=by omega
   clear hM1 hC hO;go_wp2_with fail;go_ret;have hC:=HC.out;rw [take_of_length_le (by have:=HK.out; omega), List.drop_of_length_le (by have:=HK.out; omega)] at hC;obtain ⟨r1, r2⟩:=hC.done HD.out H.out HM1.out;exact ⟨m, mem1, bs1, rfl, r1, r2, (only_of HB.out P.set).trans HO.out⟩
  | succ g =>
   have hjn : (j : Int) < (n : Int):=by omega
   have hjk : j < ks.length:=by have:=HK.out; omega
   obtain ⟨k, hk⟩ : ∃ k, k = ks[j]:=⟨_, rfl⟩;have hkj : ks[j]? = some k:=by rw [hk]; exact getElem?_eq_getElem hjk
   have hkm : k ∈ ks:=mem_of_getElem? hkj;obtain ⟨hkb, hku⟩:=HD.out.lt k hkm;obtain ⟨x, hx⟩ : ∃ x, bs[k]? = some x:=⟨_, getElem?_eq_getElem hkb⟩;have hxu : x.used = true:=by unfold usedAt at hku; rw [hx] at hku; exact hku
   have hdr : ks.drop j = k :: ks.drop (j + 1):=by rw [hk]; exact List.drop_eq_getElem_cons hjk
   have hsplit : ks = ks.take j ++ k :: ks.drop (j + 1):=by rw [<- hdr, List.take_append_drop]
   have htk : ks.take (j + 1) = ks.take j ++ [k]:=by rw [List.take_add_one, hkj]; rfl
   have hnd : ks.Nodup:=HD.out.perm.nodup_iff.2 (usedIx_nodup bs);have hkp : k ∉ ks.take j:=by intro hm;rw [hsplit] at hnd;exact (List.nodup_append.1 hnd).2.2 k hm k (by simp) rfl
   have hx1:=HC.out.now hkp hx;obtain ⟨gb, hgb⟩:=HM1.out.gets hx1;obtain ⟨d0, d1, _⟩:=HM1.out.look hx1 hgb;have f0:=HM1.out.soft hgb (k * 3);have c0:=HM1.out.head.cell 0;have c1:=HM1.out.head.cell 1;simp only [qTa, qTb, qTc, HpP.row, hgb, Option.map_some] at c0 c1;rw [HC.out.lenm, <- HN.out] at c0;rw [HC.out.len] at c1;obtain ⟨_, b0, off0, hAA, _, i0⟩:=(HI.out.only HO.out HAP.out) j (k : Int) (by simp [zI, hkj]);have hxf:=H.out.fit x (mem_of_getElem? hx);rw [<- HN.out] at hxf;have HX:=hid hx;have HX1:=hid hx1;have HXU:=hid hxu;have HDR:=hid hdr;have HSP:=hid hsplit;have HTK:=hid htk;have HND:=hid hnd;have HGB:=hid hgb;obtain ⟨a, ha⟩ : ∃ a, a = x.at_:=⟨_, rfl⟩;obtain ⟨q, hq⟩ : ∃ a, a = x.n:=⟨_, rfl⟩;obtain ⟨L, hL⟩ : ∃ a, a = bs.length:=⟨_, rfl⟩;rw [<- ha] at d0 hxf;rw [<- hq] at d1 hxf;rw [<- hL] at c1 hkb hc;have HA:=hid ha;have HQ:=hid hq;have HL:=hid hL;subst hAA;clear hM1 hC hO hjk hk hkj hkm hku hx hxu hdr hsplit htk hnd hkp hx1 hgb ha hq hL hkl;by_cases hq0 : q = 0
   ·subst hq0;go_wp2_with fail;go_roundg g
    case measure => omega
    case rel =>
     refine ⟨j + 1, m, e, mem1, bs1, by omega, by omega, rfl, by go_num, by go_num, heN, HM1.out, ?_, HO.out⟩;show CInv mem bs (ks.take (j + 1)) (ks.drop (j + 1)) mem1 bs1 e
     have hC:=HC.out;rw [HDR.out] at hC;rw [HTK.out];exact hC.skip HX.out HQ.out.symm
   ·have hq1 : ((q : Int) == 0) = false:=by simp; omega
    have hreal : Real bs k x:=⟨HX.out, HXU.out, by rw [<- HQ.out]; omega⟩;have hC:=HC.out;rw [HDR.out] at hC;have hle:=hC.next k (by simp) x hreal
    rw [<- HA.out] at hle;have hst:=fun (mem2 : List Int) (bs2 : List Hb) => hC.step (mem2:=mem2) (bs2:=bs2) (HN.out ▸ H.out.lay) (by rw [<- HSP.out]; exact HD.out.asc) (by rw [<- HSP.out]; exact HND.out) hreal;have HST:=hid hst;clear hreal hC hst;by_cases hea : e = a
    ·subst hea;go_wp2_with fail;go_roundg g
     case measure => omega
     case rel =>
      refine ⟨j + 1, m, e + q, mem1, bs1, by omega, by omega, rfl, by go_num, by go_num, hxf, HM1.out, ?_, HO.out⟩;show CInv mem bs (ks.take (j + 1)) (ks.drop (j + 1)) mem1 bs1 (e + q)
      rw [HTK.out, HQ.out];refine HST.out mem1 bs1 ?_ ?_ rfl rfl
      ·intro i;by_cases hi : i = k
       ·subst hi;rw [if_pos rfl, HX1.out];have : ({ x with at_:=e } : Hb) = x:=by rw [HA.out]
        rw [this]
       ·rw [if_neg hi]
      ·intro t;by_cases ht : e <= t /\ t < e + x.n
       ·rw [if_pos ht, <- HA.out]
        congr 1; omega
       ·rw [if_neg ht]
    ·have hne : ((a : Int) != (e : Int)) = true:=by simp; omega
     have hlt : e < a:=by omega
     have hlm : mem1.length = N:=HC.out.lenm.trans HN.out.symm;have hMd : HpMem wr.drew P mem1 bs1:=HM1.out.only ((Only.refl (fun _ => False) wr).drewN 1) (fun _ _ h => h);have hrun:=run_copy_words wr.drew P mem1 bs1 hMd 3 e a q (N - e) (N - a) (by rw [hlm]; omega) (by rw [hlm]; omega) (N - e) (by omega);obtain ⟨mem2, hm2⟩ : ∃ l, l = putW mem1 e ((mem1.drop a).take q):=⟨_, rfl⟩;rw [<- hm2] at hrun;have hl2 : ((mem1.drop a).take q).length = q:=by simp; omega
     have hm2l : mem2.length = mem1.length:=by rw [hm2]; exact putW_length _ _ _ (by rw [hl2]; omega)
     have hM3 : HpMem (wr.drew.setRow P.m (wCells mem2)) P mem2 bs1:=HpMem.putRow (w:=wr.drew) hMd mem2 hm2l;have ho3 : Only P.set w1 (wr.drew.setRow P.m (wCells mem2)):=(HO.out.drewN 1).trans ((only_setRow wr.drew P.m (wCells mem2)).mono (fun g hg => .inr (.inl hg)));obtain ⟨w3, hw3⟩ : ∃ w3, w3 = wr.drew.setRow P.m (wCells mem2):=⟨_, rfl⟩;rw [<- hw3] at hrun hM3 ho3;obtain ⟨d03, d13, _⟩:=hM3.look HX1.out HGB.out;have f03:=hM3.soft HGB.out (k * 3);rw [<- HA.out] at d03;rw [<- HQ.out] at d13;have HM3:=hid hM3;have HO3:=hid ho3;have HM2:=hid hm2;have HM2L:=hid hm2l;have HL2:=hid hl2;clear hm2 hl2 hm2l hM3 ho3 hw3 hea hMd;go_wp2_with fail;go_region
     all_goals
      go_wp2_with fail;go_roundg g
      case measure => omega
      case rel =>
       refine ⟨j + 1, m + 1, e + q, mem2, bs1.set k { x with at_:=e }, by omega, by omega, by go_num, by go_num, by go_num, by omega, HM3.out.setAt HX1.out HGB.out e, ?_, HO3.out.setCell (p:=⟨gb, k * 3, none⟩) (.inl (.inr (.inr HGB.out))) _⟩;show CInv mem bs (ks.take (j + 1)) (ks.drop (j + 1)) mem2 (bs1.set k { x with at_:=e }) (e + q)
       rw [HTK.out, HQ.out];refine HST.out mem2 _ ?_ ?_ HM2L.out (by rw [length_set])
       ·intro i;rw [List.getElem?_set];by_cases hi : i = k
        ·subst hi;rw [if_pos rfl, if_pos rfl, if_pos (List.getElem?_eq_some_iff.1 HX1.out).1]
        ·rw [if_neg hi, if_neg (Ne.symm hi)]
       ·intro t;have hl2:=HL2.out;rw [HM2.out, putW_get _ _ _ (by rw [hl2, hlm]; omega), hl2, <- HQ.out, <- HA.out];by_cases ht : e <= t /\ t < e + q
        ·rw [if_pos ht, if_pos ht, List.getElem?_take, if_pos (by omega), List.getElem?_drop]
        ·rw [if_neg ht, if_neg ht]
def view (mem : List Int) (bs : List Hb) (k : Nat) : Option (List Int):=match bs[k]? with
 | some x => if x.used = true then some ((mem.drop x.at_).take x.n) else none
 | none => none
def updV (V : Nat -> Option (List Int)) (k : Nat) (v : Option (List Int)) (j : Nat) : Option (List Int):=if j = k then v else V j
def HeapV (w : World) (P : HpP) (N c : Nat) (V : Nat -> Option (List Int)) (t : Bool) : Prop :=
 ∃ mem bs, HpAt w P mem bs /\ mem.length = N /\ bs.length = c /\ (∀ k, V k = view mem bs k) /\ (t = true -> Packed bs)
theorem HeapV.only {S : Nat -> Prop} {w w' : World} {P : HpP} {N c : Nat} {V : Nat -> Option (List Int)} {t : Bool} (h : HeapV w P N c V t) (ho : Only S w w') (hs : ∀ k, P.set k -> ¬ S k) : HeapV w' P N c V t:=by obtain ⟨mem, bs, h1, h2⟩:=h;exact ⟨mem, bs, h1.only ho hs, h2⟩
theorem HeapV.below {w w' : World} {P : HpP} {N c : Nat} {V : Nat -> Option (List Int)} {t : Bool} (h : HeapV w P N c V t) (hb : Below w.heap.size w w') : HeapV w' P N c V t:=h.only (only_of hb (fun _ => False)) (fun _ _ h => h)
theorem HeapV.lt {w : World} {P : HpP} {N c : Nat} {V : Nat -> Option (List Int)} {t : Bool} (h : HeapV w P N c V t) : ∀ k, P.set k -> k < w.heap.size:=by obtain ⟨mem, bs, h1, h2⟩:=h;exact h1.lt
theorem view_some {mem : List Int} {bs : List Hb} {k : Nat} {ws : List Int} (h : view mem bs k = some ws) : ∃ x, bs[k]? = some x /\ x.used = true /\ ws = (mem.drop x.at_).take x.n:=by
 unfold view at h;cases hx : bs[k]? with
 | none => rw [hx] at h; cases h
 | some x =>
  rw [hx] at h;simp only at h;split at h
  ·next hu => exact ⟨x, rfl, hu, (Option.some.inj h).symm⟩
  ·cases h
theorem view_of {mem : List Int} {bs : List Hb} {k : Nat} {x : Hb} (hx : bs[k]? = some x) (hu : x.used = true) : view mem bs k = some ((mem.drop x.at_).take x.n):=by unfold view;rw [hx];simp only [hu, if_true]
theorem view_off {mem : List Int} {bs : List Hb} {k : Nat} {x : Hb} (hx : bs[k]? = some x) (hu : x.used = false) : view mem bs k = none:=by unfold view;rw [hx];simp only [hu, Bool.false_eq_true, if_false]
theorem part_get (mem : List Int) (a n t : Nat) : ((mem.drop a).take n)[t]? = if t < n then mem[a + t]? else none:=by rw [List.getElem?_take, List.getElem?_drop]
theorem HeapV.vals {w : World} {P : HpP} {N c : Nat} {V : Nat -> Option (List Int)} {t : Bool} (h : HeapV w P N c V t) {k : Nat} {ws : List Int} (hk : V k = some ws) : k < c /\ ws.length <= N /\ ∀ v ∈ ws, 0 <= v /\ v <= 65535:=by obtain ⟨mem, bs, h1, h2, h3, h4, _⟩:=h;rw [h4] at hk;obtain ⟨x, hx, hu, rfl⟩:=view_some hk;refine ⟨by rw [<- h3]; exact (List.getElem?_eq_some_iff.1 hx).1, by rw [<- h2]; simp; omega, fun v hv => h1.vals v (List.mem_of_mem_drop (List.mem_of_mem_take hv))⟩
theorem HeapV.size {w : World} {P : HpP} {N c : Nat} {V : Nat -> Option (List Int)} {t : Bool} (h : HeapV w P N c V t) : N <= 32768 /\ c <= 1000:=by obtain ⟨mem, bs, h1, h2, h3, _⟩:=h;rw [<- h2, <- h3];exact ⟨h1.size, h1.count⟩
theorem heapNew_any (N : Nat) (hN : N <= 32768) (w : World) :
  Calls Tryz.prog 16 #[.int .i64 N] w fun e w' => ∃ P : HpP, e = .returned (.tuple #[.pointer (some ⟨P.h, 0, none⟩), .int .i64 0]) /\ HeapV w' P N 0 (fun _ => none) true /\ (∀ k, P.set k -> w.heap.size <= k) /\ Below w.heap.size w w':=by
 refine (hpNew_ok N hN w).mono ?_;rintro e w' ⟨P, he, h1, h2, h3⟩;refine ⟨P, he, ⟨_, _, h1, by simp, rfl, fun k => by simp [view], fun _ k x t hx => ?_⟩, h2, h3⟩;have:=hx.1;simp at this
theorem heapSize_any (P : HpP) (N c : Nat) (V : Nat -> Option (List Int)) (t : Bool) (k : Nat) (ws : List Int) (w : World) (h : HeapV w P N c V t) (hk : V k = some ws) :
  Calls Tryz.prog 27 #[.pointer (some ⟨P.h, 0, none⟩), .int .i64 k] w fun e w' => e = .returned (.int .i64 (ws.length : Int)) /\ w = w':=by
 obtain ⟨mem, bs, h1, h2, h3, h4, _⟩:=h;rw [h4] at hk;obtain ⟨x, hx, hu, rfl⟩:=view_some hk;have e : ((mem.drop x.at_).take x.n).length = x.n:=by have:=h1.fit x (mem_of_getElem? hx);simp; omega
 rw [e];exact hpSize_in P mem bs k x w h1.base hx hu
theorem heapRead_any (P : HpP) (N c : Nat) (V : Nat -> Option (List Int)) (t : Bool) (k i : Nat) (ws : List Int) (w : World) (h : HeapV w P N c V t) (hk : V k = some ws) (hi : i < ws.length) :
  Calls Tryz.prog 30 #[.pointer (some ⟨P.h, 0, none⟩), .int .i64 k, .int .i64 i] w fun e w' => e = .returned (.tuple #[.int .i64 (ws.getD i 0), .int .i64 0]) /\ ∃ m, w' = w.drewN m:=by
 obtain ⟨mem, bs, h1, h2, h3, h4, _⟩:=h;rw [h4] at hk;obtain ⟨x, hx, hu, rfl⟩:=view_some hk;have hin : i < x.n:=by simp at hi; omega
 have e : ((mem.drop x.at_).take x.n).getD i 0 = mem.getD (x.at_ + i) 0:=by rw [getD_eq_getElem?_getD, getD_eq_getElem?_getD, part_get, if_pos hin]
 rw [e];exact hpRead_in P mem bs k i x w h1 hx hu hin
theorem heapFree_any (P : HpP) (N c : Nat) (V : Nat -> Option (List Int)) (t : Bool) (k : Nat) (ws : List Int) (w : World) (h : HeapV w P N c V t) (hk : V k = some ws) :
  Calls Tryz.prog 219 #[.pointer (some ⟨P.h, 0, none⟩), .int .i64 k] w fun e w' => e = .returned (.int .i64 0) /\ HeapV w' P N c (updV V k none) false /\ Only P.set w w':=by
 obtain ⟨mem, bs, h1, h2, h3, h4, _⟩:=h;rw [h4] at hk;obtain ⟨x, hx, hu, rfl⟩:=view_some hk;refine (hpFree_in P mem bs k x w h1 hx hu).mono ?_;rintro e w' ⟨he, h5, h6⟩;refine ⟨he, ⟨mem, _, h5, h2, by rw [length_set]; exact h3, fun j => ?_, fun h => by cases h⟩, h6⟩;unfold updV;by_cases hj : j = k
 ·rw [if_pos hj, hj];exact (view_off (x:={ x with used:=false }) (by rw [List.getElem?_set_self (List.getElem?_eq_some_iff.1 hx).1]) rfl).symm
 ·rw [if_neg hj, h4];unfold view;rw [List.getElem?_set_ne (Ne.symm hj)]
theorem heapRoom_any (P : HpP) (N c : Nat) (V : Nat -> Option (List Int)) (t : Bool) (w : World) (h : HeapV w P N c V t) :
  Calls Tryz.prog 216 #[.pointer (some ⟨P.h, 0, none⟩)] w fun e w' => ∃ all most : Nat, e = .returned (.tuple #[.int .i64 (all : Int), .int .i64 (most : Int)]) /\ (t = true -> all = most) /\ Below w.heap.size w w':=by
 obtain ⟨mem, bs, h1, h2, h3, h4, h5⟩:=h;refine (room_any P mem bs w h1).mono ?_;rintro e w' ⟨all, most, he, h6, h7⟩;exact ⟨all, most, he, fun ht => h6 (h5 ht), h7⟩
theorem heapCompact_any (P : HpP) (N c : Nat) (V : Nat -> Option (List Int)) (t : Bool) (w : World) (h : HeapV w P N c V t) :
  Calls Tryz.prog 217 #[.pointer (some ⟨P.h, 0, none⟩)] w fun e w' => ∃ n : Int, e = .returned (.int .i64 n) /\ HeapV w' P N c V true /\ Only P.set w w':=by
 obtain ⟨mem, bs, h1, h2, h3, h4, h5⟩:=h;refine (compact_any P mem bs w h1).mono ?_;rintro e w' ⟨n, mem1, bs1, he, h6, h7, h8⟩;refine ⟨n, he, ⟨mem1, bs1, h6, h7.lenm.trans h2, h7.len.trans h3, fun k => ?_, fun _ => h7.packed⟩, h8⟩;rw [h4];cases hx : bs[k]? with
 | none =>
  have h9 : bs1[k]? = none:=by rw [getElem?_eq_none_iff] at hx ⊢;rw [h7.len]; exact hx
  unfold view;rw [hx, h9]
 | some x =>
  obtain ⟨y, hy, e1, e2, e3⟩:=h7.same k x hx;by_cases hu : x.used = true
  ·rw [view_of hx hu, view_of hy (e1.trans hu), e2]
   congr 1;apply List.ext_getElem?
   intro t;rw [part_get, part_get];by_cases ht : t < x.n
   ·rw [if_pos ht, if_pos ht, e3 hu t ht]
   ·rw [if_neg ht, if_neg ht]
  ·rw [view_off hx (by simpa using hu), view_off hy (by rw [e1]; simpa using hu)]
theorem heapWrite_any (P : HpP) (N c : Nat) (V : Nat -> Option (List Int)) (t : Bool) (k i : Nat) (ws l : List Int) (A : Option Addr) (cap : Nat) (w : World) (h : HeapV w P N c V t) (hk : V k = some ws) (hi : i + l.length <= ws.length)
  (hA : Ints w A l) (hAP : ∀ b off, A = some ⟨b, off, none⟩ -> ¬ P.set b) (hl : ∀ v ∈ l, 0 <= v /\ v <= 65535) :
  Calls Tryz.prog 174 #[.pointer (some ⟨P.h, 0, none⟩), .int .i64 k, .int .i64 i, .slice A l.length cap] w fun e w' => e = .returned (.int .i64 0) /\ HeapV w' P N c (updV V k (some (putW ws i l))) t /\ Only P.set w w':=by
 obtain ⟨mem, bs, h1, h2, h3, h4, h5⟩:=h;rw [h4] at hk;obtain ⟨x, hx, hu, rfl⟩:=view_some hk;have hfit:=h1.fit x (mem_of_getElem? hx);have hlen : ((mem.drop x.at_).take x.n).length = x.n:=by simp; omega
 rw [hlen] at hi;refine (hpWrite_in P mem bs k i x A l cap w h1 hx hu hi hA hAP hl).mono ?_;rintro e w' ⟨he, h6, h7⟩;have hp : x.at_ + i + l.length <= mem.length:=by omega
 refine ⟨he, ⟨putW mem (x.at_ + i) l, bs, h6, by rw [putW_length _ _ _ hp]; exact h2, h3, fun j => ?_, h5⟩, h7⟩;unfold updV;by_cases hj : j = k
 ·subst hj;rw [if_pos rfl, view_of hx hu]
  congr 1;apply List.ext_getElem?
  intro q;rw [part_get, putW_get _ _ _ (by rw [hlen]; exact hi), part_get, putW_get _ _ _ hp];by_cases hq : q < x.n
  ·rw [if_pos hq, if_pos hq];by_cases hc : i <= q /\ q < i + l.length
   ·rw [if_pos hc, if_pos (by omega)]
    congr 1; omega
   ·rw [if_neg hc, if_neg (by omega)]
  ·rw [if_neg hq, if_neg hq, if_neg (by omega)]
 ·rw [if_neg hj, h4];cases hy : bs[j]? with
  | none => unfold view; rw [hy]
  | some y =>
   by_cases hyu : y.used = true
   ·rw [view_of hy hyu, view_of hy hyu]
    congr 1;apply List.ext_getElem?
    intro q;rw [part_get, part_get, putW_get _ _ _ hp];by_cases hq : q < y.n
    ·rw [if_pos hq, if_pos hq, if_neg];intro hc;have:=h1.disj j k y x hy hx hj hyu hu (by omega) (by omega);omega
    ·rw [if_neg hq, if_neg hq]
   ·rw [view_off hy (by simpa using hyu), view_off hy (by simpa using hyu)]
def AllocV (P : HpP) (N c : Nat) (V : Nat -> Option (List Int)) (n : Nat) (w : World) (e : Ending) (w' : World) : Prop :=
 (e = .returned (.tuple #[.int .i64 0, .int .i64 3]) /\ Below w.heap.size w w') \/
 ∃ (k : Nat) (P' : HpP) (c' : Nat), e = .returned (.tuple #[.int .i64 (k : Int), .int .i64 0]) /\ HeapV w' P' N c' (updV V k (some (List.replicate n 0))) false /\ V k = none /\ P'.h = P.h /\ (∀ g, P'.set g -> P.set g \/ w.heap.size <= g) /\ Only P.set w w' /\
  (c' = c \/ (c' = c + 1 /\ k = c /\ ∀ j, j < c -> V j ≠ none)) /\ k < c'
theorem heapAlloc_any (P : HpP) (N c : Nat) (V : Nat -> Option (List Int)) (t : Bool) (n : Nat) (w : World) (h : HeapV w P N c V t) (hn : n <= 40000) (hc : c < 1000) :
  Calls Tryz.prog 215 #[.pointer (some ⟨P.h, 0, none⟩), .int .i64 n] w (AllocV P N c V n w):=by
 obtain ⟨mem, bs, h1, h2, h3, h4, h5⟩:=h;refine (alloc_any P mem bs n w h1 hn (by omega)).mono ?_;rintro e w' (⟨he, hb⟩ | ⟨k, P', p, bs', he, h6, hPh, hPm, hPb, hO, hS, hK⟩)
 ·exact .inl ⟨he, hb⟩
 ·have hp:=hS.1;have get : ∀ j, (j = k /\ bs'[j]? = some ⟨p, n, true⟩) \/ (j ≠ k /\ bs'[j]? = bs[j]?):=by
   intro j;rcases hK with ⟨hf, rfl⟩ | ⟨hf, rfl, rfl⟩
   ·have hkb : k < bs.length:=(List.findIdx?_eq_some_iff_getElem.1 hf).1;by_cases hj : j = k
    ·subst hj; exact .inl ⟨rfl, List.getElem?_set_self hkb⟩
    ·exact .inr ⟨hj, List.getElem?_set_ne (Ne.symm hj)⟩
   ·by_cases hj : j = bs.length
    ·subst hj; exact .inl ⟨rfl, by simp⟩
    ·refine .inr ⟨hj, ?_⟩;by_cases hlt : j < bs.length
     ·exact getElem?_append_left hlt
     ·rw [List.getElem?_eq_none (by simp; omega), List.getElem?_eq_none (by omega)]
  have hput : mem.take p ++ (List.replicate n 0 ++ mem.drop (p + n)) = putW mem p (List.replicate n 0):=by unfold putW; rw [length_replicate]
  rw [hput] at h6;have hlr : (List.replicate n (0 : Int)).length = n:=length_replicate;have hVk : V k = none:=by
   rw [h4];rcases hK with ⟨hf, _⟩ | ⟨_, rfl, _⟩
   ·have hkb:=List.findIdx?_eq_some_iff_getElem.1 hf;obtain ⟨h7, h8, _⟩:=hkb;exact view_off (getElem?_eq_getElem h7) (by simpa using h8)
   ·unfold view;rw [List.getElem?_eq_none (Nat.le_refl _)]
  refine .inr ⟨k, P', bs'.length, he, ⟨_, bs', h6, by rw [putW_length _ _ _ (by rw [hlr]; exact hp)]; exact h2, rfl, fun j => ?_, fun h => by cases h⟩, hVk, hPh, ?_, hO, ?_, ?_⟩
  ·unfold updV;rcases get j with ⟨rfl, hg⟩ | ⟨hj, hg⟩
   ·rw [if_pos rfl, view_of hg rfl]
    congr 1;apply List.ext_getElem?
    intro q;rw [part_get];show (List.replicate n (0 : Int))[q]? = if q < n then (putW mem p (List.replicate n 0))[p + q]? else none
    by_cases hq : q < n
    ·rw [if_pos hq, putW_get _ _ _ (by rw [hlr]; exact hp), hlr, if_pos (by omega)]
     congr 1; omega
    ·rw [if_neg hq, List.getElem?_eq_none (by rw [hlr]; omega)]
   ·rw [if_neg hj, h4];cases hy : bs[j]? with
    | none => rw [hy] at hg; unfold view; rw [hy, hg]
    | some y =>
     rw [hy] at hg;by_cases hyu : y.used = true
     ·rw [view_of hy hyu, view_of hg hyu]
      congr 1;apply List.ext_getElem?
      intro q;rw [part_get, part_get, putW_get _ _ _ (by rw [hlr]; exact hp), hlr];by_cases hq : q < y.n
      ·rw [if_pos hq, if_pos hq, if_neg];intro hcc;have:=hS.2 (by omega) j y ⟨hy, hyu, by omega⟩;omega
      ·rw [if_neg hq, if_neg hq]
     ·rw [view_off hy (by simpa using hyu), view_off hg (by simpa using hyu)]
  ·rintro g (rfl | rfl | hg)
   ·exact .inl (.inl hPh)
   ·exact .inl (.inr (.inl hPm))
   ·rcases hPb g hg with h | h
    ·exact .inl (.inr (.inr h))
    ·exact .inr h
  ·rcases hK with ⟨hf, rfl⟩ | ⟨hf, rfl, rfl⟩
   ·left; rw [length_set]; exact h3
   ·refine .inr ⟨by simp; exact h3, h3, fun j hj => ?_⟩;rw [h4];have hjb : j < bs.length:=by omega
    have hall:=(List.findIdx?_eq_none_iff.1 hf) bs[j] (List.getElem_mem hjb);rw [view_of (getElem?_eq_getElem hjb) (by simpa using hall)];simp
  ·rcases hK with ⟨hf, rfl⟩ | ⟨hf, rfl, rfl⟩
   ·rw [length_set]; exact (List.findIdx?_eq_some_iff_getElem.1 hf).1
   ·simp
def heldV (V : Nat -> Option (List Int)) (c : Nat) : List Nat:=(List.range c).filter (fun k => (V k).isSome)
theorem heapBlocks_any (P : HpP) (N c : Nat) (V : Nat -> Option (List Int)) (t : Bool) (w : World) (h : HeapV w P N c V t) :
  Calls Tryz.prog 36 #[.pointer (some ⟨P.h, 0, none⟩)] w fun e w' => ∃ v, e = .returned v /\ OwnsI w' w.heap.size v (zI (heldV V c)) /\ Below w.heap.size w w':=by
 obtain ⟨mem, bs, h1, h2, h3, h4, h5⟩:=h;have e : heldV V c = usedIx bs:=by
  unfold heldV usedIx usedTo;rw [h3]
  congr 1
  funext k
  rw [h4];unfold view usedAt;cases hx : bs[k]? with
  | none => rfl
  | some x =>
   simp only;by_cases hu : x.used = true
   ·simp [hu]
   ·simp [hu]
 rw [e];exact blocks_any P mem bs w h1.base h1.lt h1.count
end Go.Proofs.YtgaemfghpibeeaaGreatDoor
namespace Go.Proofs.YtgaemfghpibeeaaGreatDoor
open Go.RowKit
namespace Ck
structure Pl where
 i : Bool
 t : Bool
 p : Bool
deriving DecidableEq
def Pl.cells (x : Pl) : List Value:=[.bool x.i, .bool x.t, .bool x.p]
def cellsOf (L : List Pl) : List Value:=L.flatMap Pl.cells
theorem cellsOf_cons (x : Pl) (L : List Pl) : cellsOf (x :: L) = .bool x.i :: .bool x.t :: .bool x.p :: cellsOf L:=rfl
theorem cellsOf_length (L : List Pl) : (cellsOf L).length = 3 * L.length:=by
 induction L with
 | nil => rfl
 | cons x L ih => simp only [cellsOf_cons, List.length_cons, ih]; omega
theorem cellsOf_get (L : List Pl) (i : Nat) (x : Pl) (h : L[i]? = some x) :
  (cellsOf L)[i * 3]? = some (.bool x.i) /\ (cellsOf L)[i * 3 + 1]? = some (.bool x.t) /\ (cellsOf L)[i * 3 + 2]? = some (.bool x.p):=by
 induction L generalizing i with
 | nil => simp at h
 | cons y L ih =>
  cases i with
  | zero => simp at h; subst h; simp [cellsOf_cons]
  | succ i =>
   simp at h;have:=ih i h;rw [cellsOf_cons];have e : (i + 1) * 3 = i * 3 + 1 + 1 + 1:=by omega
   rw [e]
   simpa using this
theorem cellsOf_set (L : List Pl) (i : Nat) (y : Pl) (h : i < L.length) :
  (((cellsOf L).set (i * 3) (.bool y.i)).set (i * 3 + 1) (.bool y.t)).set (i * 3 + 2) (.bool y.p) = cellsOf (L.set i y):=by
 induction L generalizing i with
 | nil => simp at h
 | cons x L ih =>
  cases i with
  | zero => simp [cellsOf_cons]
  | succ i =>
   have e : (i + 1) * 3 = i * 3 + 1 + 1 + 1:=by omega
   rw [cellsOf_cons, e];simp only [List.set_cons_succ, cellsOf_cons];rw [ih i (by simpa using h)]
theorem cellsOf_set_t (L : List Pl) (i : Nat) (x : Pl) (b : Bool) (h : L[i]? = some x) :
  (cellsOf L).set (i * 3 + 1) (.bool b) = cellsOf (L.set i { x with t:=b }):=by
 induction L generalizing i with
 | nil => simp at h
 | cons y L ih =>
  cases i with
  | zero => simp at h; subst h; simp [cellsOf_cons]
  | succ i =>
   have e : (i + 1) * 3 + 1 = i * 3 + 1 + 1 + 1 + 1:=by omega
   rw [cellsOf_cons, e];simp only [List.set_cons_succ, cellsOf_cons];rw [ih i (by simpa using h)]
theorem cellsOf_set_p (L : List Pl) (i : Nat) (x : Pl) (b : Bool) (h : L[i]? = some x) :
  (cellsOf L).set (i * 3 + 2) (.bool b) = cellsOf (L.set i { x with p:=b }):=by
 induction L generalizing i with
 | nil => simp at h
 | cons y L ih =>
  cases i with
  | zero => simp at h; subst h; simp [cellsOf_cons]
  | succ i =>
   have e : (i + 1) * 3 + 2 = i * 3 + 2 + 1 + 1 + 1:=by omega
   rw [cellsOf_cons, e];simp only [List.set_cons_succ, cellsOf_cons];rw [ih i (by simpa using h)]
structure Clk (w : World) (c lb : Nat) (L : List Pl) (h : Nat) : Prop where
 head : Blk w c 121 #[.slice (some ⟨lb, 0, none⟩) L.length L.length, .int .i64 h]
 body : Blk w lb 152 (cellsOf L).toArray
 size : L.length <= 16384
section
variable {w w' : World} {c lb : Nat} {L : List Pl} {h : Nat}
theorem Clk.ne (k : Clk w c lb L h) : c ≠ lb:=by rintro rfl;have h1:=k.head;have h2:=k.body;unfold Blk at h1 h2;rw [h1] at h2;injection h2 with h2;injection h2 with _ ht;exact absurd ht (by decide)
theorem Clk.c0 (k : Clk w c lb L h) : w.cell? ⟨c, 0, none⟩ = some (.slice (some ⟨lb, 0, none⟩) L.length L.length):=(k.head.cell 0).trans (by simp)
theorem Clk.c1 (k : Clk w c lb L h) : w.cell? ⟨c, 1, none⟩ = some (.int .i64 h):=(k.head.cell 1).trans (by simp)
theorem Clk.cf (k : Clk w c lb L h) (i : Nat) : w.frozen? ⟨c, i, none⟩ = false:=k.head.frozen i
theorem Clk.bf (k : Clk w c lb L h) (i : Nat) : w.frozen? ⟨lb, i, none⟩ = false:=k.body.frozen i
theorem Clk.bi (k : Clk w c lb L h) {i : Nat} {x : Pl} (hx : L[i]? = some x) : w.cell? ⟨lb, i * 3, none⟩ = some (.bool x.i):=(k.body.cell _).trans (by simpa using (cellsOf_get L i x hx).1)
theorem Clk.bt (k : Clk w c lb L h) {i : Nat} {x : Pl} (hx : L[i]? = some x) : w.cell? ⟨lb, i * 3 + 1, none⟩ = some (.bool x.t):=(k.body.cell _).trans (by simpa using (cellsOf_get L i x hx).2.1)
theorem Clk.bp (k : Clk w c lb L h) {i : Nat} {x : Pl} (hx : L[i]? = some x) : w.cell? ⟨lb, i * 3 + 2, none⟩ = some (.bool x.p):=(k.body.cell _).trans (by simpa using (cellsOf_get L i x hx).2.2)
theorem Clk.drew (k : Clk w c lb L h) : Clk w.drew c lb L h:=⟨k.head.drew, k.body.drew, k.size⟩
theorem Clk.drewN (k : Clk w c lb L h) (n : Nat) : Clk (w.drewN n) c lb L h:=⟨k.head.drewN n, k.body.drewN n, k.size⟩
theorem Clk.alloc (k : Clk w c lb L h) (o : Obj) : Clk (w.alloc o) c lb L h:=⟨k.head.alloc o, k.body.alloc o, k.size⟩
theorem Clk.far (k : Clk w c lb L h) {p : Addr} (h1 : c ≠ p.block) (h2 : lb ≠ p.block) (u : Value) : Clk (w.setCell p u) c lb L h:=⟨k.head.far h1 u, k.body.far h2 u, k.size⟩
theorem Clk.hand (k : Clk w c lb L h) (j : Nat) : Clk (w.setCell ⟨c, 1, none⟩ (.int .i64 j)) c lb L j :=
 ⟨by simpa using k.head.set_ 1 (.int .i64 j), k.body.far (Ne.symm k.ne) _, k.size⟩
theorem Clk.setT (k : Clk w c lb L h) {i : Nat} {x : Pl} (hx : L[i]? = some x) (b : Bool) : Clk (w.setCell ⟨lb, i * 3 + 1, none⟩ (.bool b)) c lb (L.set i { x with t:=b }) h:=by
 refine ⟨?_, ?_, by simpa using k.size⟩
 ·simpa using k.head.far (p:=⟨lb, i * 3 + 1, none⟩) k.ne (.bool b)
 ·have:=k.body.set_ (i * 3 + 1) (.bool b);rw [List.setIfInBounds_toArray, cellsOf_set_t L i x b hx] at this;exact this
theorem Clk.setP (k : Clk w c lb L h) {i : Nat} {x : Pl} (hx : L[i]? = some x) (b : Bool) : Clk (w.setCell ⟨lb, i * 3 + 2, none⟩ (.bool b)) c lb (L.set i { x with p:=b }) h:=by
 refine ⟨?_, ?_, by simpa using k.size⟩
 ·simpa using k.head.far (p:=⟨lb, i * 3 + 2, none⟩) k.ne (.bool b)
 ·have:=k.body.set_ (i * 3 + 2) (.bool b);rw [List.setIfInBounds_toArray, cellsOf_set_p L i x b hx] at this;exact this
theorem Clk.setAll (k : Clk w c lb L h) {i : Nat} (hi : i < L.length) (y : Pl) :
  Clk (((w.setCell ⟨lb, i * 3, none⟩ (.bool y.i)).setCell ⟨lb, i * 3 + 1, none⟩ (.bool y.t)).setCell ⟨lb, i * 3 + 2, none⟩ (.bool y.p)) c lb (L.set i y) h:=by
 refine ⟨?_, ?_, by simpa using k.size⟩
 ·simpa using ((k.head.far (p:=⟨lb, i * 3, none⟩) k.ne (.bool y.i)).far (p:=⟨lb, i * 3 + 1, none⟩) k.ne (.bool y.t)).far (p:=⟨lb, i * 3 + 2, none⟩) k.ne (.bool y.p)
 ·have:=((k.body.set_ (i * 3) (.bool y.i)).set_ (i * 3 + 1) (.bool y.t)).set_ (i * 3 + 2) (.bool y.p);rw [List.setIfInBounds_toArray, List.setIfInBounds_toArray, List.setIfInBounds_toArray, cellsOf_set L i y hi] at this;exact this
end
structure Only (c lb : Nat) (w w' : World) : Prop where
 os : w'.os = w.os
 tape : w'.tape = w.tape
 output : w'.output = w.output
 size : w.heap.size <= w'.heap.size
 block : ∀ k, k < w.heap.size -> k ≠ c -> k ≠ lb -> w'.heap[k]? = w.heap[k]?
section
variable {w w' w'' : World} {c lb : Nat}
theorem Only.refl (c lb : Nat) (w : World) : Only c lb w w:=⟨rfl, rfl, rfl, Nat.le_refl _, fun _ _ _ _ => rfl⟩
theorem Only.trans (h : Only c lb w w') (k : Only c lb w' w'') : Only c lb w w'' :=
 ⟨k.os.trans h.os, k.tape.trans h.tape, k.output.trans h.output, Nat.le_trans h.size k.size, fun i hi h1 h2 => (k.block i (Nat.lt_of_lt_of_le hi h.size) h1 h2).trans (h.block i hi h1 h2)⟩
theorem Only.drew (h : Only c lb w w') : Only c lb w w'.drew:=⟨h.os, h.tape, h.output, h.size, h.block⟩
theorem Only.drewN (h : Only c lb w w') (n : Nat) : Only c lb w (w'.drewN n):=⟨h.os, h.tape, h.output, h.size, h.block⟩
theorem Only.alloc (h : Only c lb w w') (o : Obj) : Only c lb w (w'.alloc o) :=
 h.trans ⟨rfl, rfl, rfl, by simp, fun k hk _ _ => Below.heap_alloc _ _ _ hk⟩
theorem Only.setC (h : Only c lb w w') (i : Nat) (u : Value) : Only c lb w (w'.setCell ⟨c, i, none⟩ u) :=
 h.trans ⟨rfl, rfl, rfl, by simp [World.setCell], fun k _ h1 _ => Below.heap_setCell _ _ _ _ h1⟩
theorem Only.setB (h : Only c lb w w') (i : Nat) (u : Value) : Only c lb w (w'.setCell ⟨lb, i, none⟩ u) :=
 h.trans ⟨rfl, rfl, rfl, by simp [World.setCell], fun k _ _ h2 => Below.heap_setCell _ _ _ _ h2⟩
theorem Only.blk (h : Only c lb w w') {g : Nat} {t : TypeId} {cs : Array Value} (hb : Blk w g t cs) (h1 : g ≠ c) (h2 : g ≠ lb) : Blk w' g t cs:=(h.block g hb.lt h1 h2).trans hb
theorem Only.below (h : Only c lb w w') {B : Nat} {w0 : World} (hb : Below B w0 w) (hB : B <= w.heap.size) (h1 : B <= c) (h2 : B <= lb) : Below B w0 w' :=
 hb.trans ⟨h.os, h.tape, h.output, h.size, fun k hk => h.block k (by omega) (by omega) (by omega)⟩
end
end Ck
end Go.Proofs.YtgaemfghpibeeaaGreatDoor
namespace Go.Proofs.YtgaemfghpibeeaaGreatDoor
open Go.RowKit
namespace Ck
theorem at_ok (w : World) (c lb h : Nat) (L : List Pl) (i : Nat) (k : Clk w c lb L h) (hi : i < L.length) :
  Calls Tryz.prog 61 #[.pointer (some ⟨c, 0, none⟩), .int .i64 i, .bool false] w fun e w' => e = .returned (.tuple #[.pointer (some ⟨lb, i * 3, none⟩), .int .i64 0]) /\ w = w':=by
 have h0:=k.c0;have hs:=k.size;go_enter Tryz.func61, Tryz.ntmps61;go_wp2;go_ret2;exact ⟨rfl, rfl⟩
theorem open_any (w : World) (c lb h : Nat) (L : List Pl) (i : Nat) (x : Pl) (k : Clk w c lb L h) (hx : L[i]? = some x) :
  Calls Tryz.prog 218 #[.pointer (some ⟨lb, i * 3, none⟩)] w fun e w' => e = .returned (.bool (x.i && !x.p)) /\ w = w':=by
 have h0:=k.bi hx;have h1:=k.bp hx;cases hxi : x.i
 all_goals
  rw [hxi] at h0;clear hxi;go_enter Tryz.func218, Tryz.ntmps218;go_wp2;go_ret;exact ⟨by simp, rfl⟩
theorem at_in (w : World) (c lb h : Nat) (L : List Pl) (i : Nat) (x : Pl) (k : Clk w c lb L h) (hx : L[i]? = some x) (hin : x.i = true) :
  Calls Tryz.prog 61 #[.pointer (some ⟨c, 0, none⟩), .int .i64 i, .bool true] w fun e w' => e = .returned (.tuple #[.pointer (some ⟨lb, i * 3, none⟩), .int .i64 0]) /\ w = w':=by
 have hi : i < L.length:=(List.getElem?_eq_some_iff.1 hx).1;have h0:=k.c0;have hs:=k.size;have hc:=k.bi hx;rw [hin] at hc;clear hx hin;go_enter Tryz.func61, Tryz.ntmps61;go_wp2;go_ret2;exact ⟨rfl, rfl⟩
theorem at_not (w : World) (c lb h : Nat) (L : List Pl) (i : Nat) (x : Pl) (k : Clk w c lb L h) (hx : L[i]? = some x) (hin : x.i = false) :
  Calls Tryz.prog 61 #[.pointer (some ⟨c, 0, none⟩), .int .i64 i, .bool true] w fun e w' => e = .returned (.tuple #[.pointer none, .int .i64 4]) /\ w = w':=by
 have hi : i < L.length:=(List.getElem?_eq_some_iff.1 hx).1;have h0:=k.c0;have hs:=k.size;have hc:=k.bi hx;rw [hin] at hc;clear hx hin;go_enter Tryz.func61, Tryz.ntmps61;go_wp2;go_ret2;exact ⟨rfl, rfl⟩
theorem at_none (w : World) (c lb h : Nat) (L : List Pl) (i : Int) (inn : Bool) (k : Clk w c lb L h) (hi : i < 0 \/ (L.length : Int) <= i) :
  Calls Tryz.prog 61 #[.pointer (some ⟨c, 0, none⟩), .int .i64 i, .bool inn] w fun e w' => e = .returned (.tuple #[.pointer none, .int .i64 4]) /\ w = w':=by
 have h0:=k.c0;have hs:=k.size;by_cases hn : i < 0
 ·clear hi;go_enter Tryz.func61, Tryz.ntmps61;go_wp2;go_ret2;exact ⟨rfl, rfl⟩
 ·have hi' : (L.length : Int) <= i:=by omega
  clear hi;go_enter Tryz.func61, Tryz.ntmps61;go_wp2;go_ret2;exact ⟨rfl, rfl⟩
theorem at_nil (w : World) (i : Int) (inn : Bool) :
  Calls Tryz.prog 61 #[.pointer none, .int .i64 i, .bool inn] w fun e w' => e = .returned (.tuple #[.pointer none, .int .i64 1]) /\ w = w':=by
 go_enter Tryz.func61, Tryz.ntmps61;go_wp2;go_ret2;exact ⟨rfl, rfl⟩
def Ret (v : Value) (c lb : Nat) (L : List Pl) (h : Nat) (w : World) (e : Ending) (w' : World) : Prop:=e = .returned v /\ Clk w' c lb L h /\ Only c lb w w'
theorem in_ok (w : World) (c lb h : Nat) (L : List Pl) (i : Nat) (on : Bool) (k : Clk w c lb L h) (hi : i < L.length) :
  Calls Tryz.prog 209 #[.pointer (some ⟨c, 0, none⟩), .int .i64 i, .bool on] w (Ret (.int .i64 0) c lb (L.set i ⟨on, false, false⟩) h w):=by
 have hx : L[i]? = some L[i]:=getElem?_eq_getElem hi;have h1:=k.bi hx;have h2:=k.bt hx;have h3:=k.bp hx;have f1:=k.bf (i * 3);have f2:=k.bf (i * 3 + 1);have f3:=k.bf (i * 3 + 2);clear hx;go_enter Tryz.func209, Tryz.ntmps209;go_wp2_with (go_at_call 61; refine (at_ok _ _ _ _ _ _ k hi).mono ?_; rintro e w' ⟨rfl, rfl⟩);go_ret;exact ⟨rfl, k.setAll hi ⟨on, false, false⟩, (((Only.refl c lb w).setB _ _).setB _ _).setB _ _⟩
theorem in_none (w : World) (c lb h : Nat) (L : List Pl) (i : Int) (on : Bool) (k : Clk w c lb L h) (hi : i < 0 \/ (L.length : Int) <= i) :
  Calls Tryz.prog 209 #[.pointer (some ⟨c, 0, none⟩), .int .i64 i, .bool on] w (Ret (.int .i64 4) c lb L h w):=by
 have H:=hid hi;clear hi;go_enter Tryz.func209, Tryz.ntmps209;go_wp2_with (go_at_call 61; refine (at_none _ _ _ _ _ _ _ k H.out).mono ?_; rintro e w' ⟨rfl, rfl⟩);go_ret;exact ⟨rfl, k, Only.refl c lb w⟩
theorem is_ok (w : World) (c lb h : Nat) (L : List Pl) (i : Nat) (x : Pl) (k : Clk w c lb L h) (hx : L[i]? = some x) :
  Calls Tryz.prog 32 #[.pointer (some ⟨c, 0, none⟩), .int .i64 i] w (Ret (.tuple #[.bool x.i, .bool x.t, .bool x.p]) c lb L h w):=by
 have hi : i < L.length:=(List.getElem?_eq_some_iff.1 hx).1;have h1:=k.bi hx;have h2:=k.bt hx;have h3:=k.bp hx;clear hx;go_enter Tryz.func32, Tryz.ntmps32;go_wp2_with (go_at_call 61; refine (at_ok _ _ _ _ _ _ k hi).mono ?_; rintro e w' ⟨rfl, rfl⟩);go_quiet (fail)
 go_wp2;go_ret3;exact ⟨rfl, k.drewN _, (Only.refl c lb w).drewN _⟩
theorem is_none (w : World) (c lb h : Nat) (L : List Pl) (i : Int) (k : Clk w c lb L h) (hi : i < 0 \/ (L.length : Int) <= i) :
  Calls Tryz.prog 32 #[.pointer (some ⟨c, 0, none⟩), .int .i64 i] w (Ret (.tuple #[.bool false, .bool false, .bool false]) c lb L h w):=by
 have H:=hid hi;clear hi;go_enter Tryz.func32, Tryz.ntmps32;go_wp2_with (go_at_call 61; refine (at_none _ _ _ _ _ _ _ k H.out).mono ?_; rintro e w' ⟨rfl, rfl⟩);go_ret3;exact ⟨rfl, k, Only.refl c lb w⟩
end Ck
namespace Ck
def vic : Nat -> List Pl -> Nat -> List Pl × Nat × Option Nat
 | 0, L, h => (L, h, none)
 | f + 1, L, h => match L[h]? with
  | none => (L, h, none)
  | some x =>
   if (x.i && !x.p) = true then
    if x.t = true then vic f (L.set h { x with t:=false }) ((h + 1) % L.length)
    else (L, (h + 1) % L.length, some h)
   else vic f L ((h + 1) % L.length)
def vicV : Option Nat -> Value
 | none => .tuple #[.int .i64 0, .bool false]
 | some i => .tuple #[.int .i64 i, .bool true]
theorem vic_length (f : Nat) (L : List Pl) (h : Nat) : (vic f L h).1.length = L.length:=by
 induction f generalizing L h with
 | zero => rfl
 | succ f ih =>
  unfold vic;split
  ·rfl
  ·split
   ·split
    ·rw [ih]; simp
    ·rfl
   ·rw [ih]
theorem Clk.handI {w : World} {c lb h : Nat} {L : List Pl} (k : Clk w c lb L h) {v : Int} {j : Nat} (hv : v = j) : Clk (w.setCell ⟨c, 1, none⟩ (.int .i64 v)) c lb L j:=by subst hv; exact k.hand j
theorem open_is (w : World) (c lb h : Nat) (L : List Pl) (i : Nat) (x : Pl) (b : Bool) (k : Clk w c lb L h) (hx : L[i]? = some x) (hb : (x.i && !x.p) = b) :
  Calls Tryz.prog 218 #[.pointer (some ⟨lb, i * 3, none⟩)] w fun e w' => e = .returned (.bool b) /\ w = w':=by
 subst hb; exact open_any w c lb h L i x k hx
def VicPost (c lb : Nat) (r : List Pl × Nat × Option Nat) (w : World) (e : Ending) (w' : World) : Prop:=Ret (vicV r.2.2) c lb r.1 r.2.1 w e w'
theorem victim_any (w : World) (c lb h : Nat) (L : List Pl) (k : Clk w c lb L h) (hh : h < L.length \/ L = []) :
  Calls Tryz.prog 211 #[.pointer (some ⟨c, 0, none⟩)] w (VicPost c lb (vic (2 * L.length) L h) w):=by
 have hs:=k.size;have h0:=k.c0;obtain ⟨n, hn⟩ : ∃ n, n = L.length:=⟨_, rfl⟩;rw [<- hn] at h0 hs;have HN:=hid hn;obtain ⟨r, hr⟩ : ∃ r, r = vic (2 * L.length) L h:=⟨_, rfl⟩;rw [<- hr];have hh' : h < n \/ n = 0:=by
  rcases hh with hh | hh
  ·exact Or.inl (by omega)
  ·exact Or.inr (by rw [hn, hh]; rfl)
 rw [<- hn] at hr;have HH:=hid hh';have HR:=hid hr;clear hn hr hh hh';go_enter Tryz.func211, Tryz.ntmps211;go_wp2;go_step3
 go_wp2;go_step3
 go_wp2;go_loopg [4, 15] (2 * n) (fun g s4 s15 wr => ∃ (j h1 : Nat) (L1 : List Pl), j + g = 2 * n /\ s15 = .int .i64 j /\ s4 = .int .i64 (-1) /\ Clk wr c lb L1 h1 /\ (h1 < n \/ n = 0) /\ L1.length = n /\ Only c lb w wr /\ Aside (r = vic g L1 h1))
 case atStart => exact ⟨0, h, L, by omega, rfl, rfl, k, HH.out, HN.out.symm, Only.refl c lb w, HR.out⟩
 case round =>
  obtain ⟨j, h1, L1, hj, rfl, rfl, k1, hh1, hl1, ho, hr⟩:=hrel;cases gk with
  | zero =>
   have hjn : ¬ ((j : Int) < 2 * (n : Int)):=by omega
   clear h0;go_wp2;go_ret2;rw [hr.out];exact ⟨rfl, k1, ho⟩
  | succ g =>
   have hjn : ((j : Int) < 2 * (n : Int)):=by omega
   have hlt : h1 < n:=by omega
   have hlt1 : h1 < L1.length:=by omega
   obtain ⟨x, hxx⟩ : ∃ x, L1[h1]? = some x:=⟨_, getElem?_eq_getElem hlt1⟩;have d0:=k1.c0;rw [hl1] at d0;have d1:=k1.c1;have d2:=k1.cf 1;have k2:=k1.handI (v:=((h1 : Int) + 1) % (n : Int)) (j:=(h1 + 1) % n) (by simp);have b2:=k2.bt hxx;have f2:=k2.bf (h1 * 3 + 1);have hmod : (h1 + 1) % n < n:=Nat.mod_lt _ (by omega);have ho2:=ho.setC 1 (.int .i64 (((h1 : Int) + 1) % (n : Int)));have hv : vic (g + 1) L1 h1 = if (x.i && !x.p) = true then if x.t = true then vic g (L1.set h1 { x with t:=false }) ((h1 + 1) % n) else (L1, (h1 + 1) % n, some h1) else vic g L1 ((h1 + 1) % n):=by rw [vic, hxx, hl1]
   have HX:=hid hxx;have HL1:=hid hl1;have HV:=hid (hr.out.trans hv);clear h0 hxx hl1 hlt1 hv hr;cases hb : (x.i && !x.p) with
   | false =>
    have HB:=hid hb;clear hb;go_wp2_with (go_at_call 218; refine (open_is _ _ _ _ _ _ _ _ k2 HX.out HB.out).mono ?_; rintro e w' ⟨rfl, rfl⟩);go_roundg g
    case measure => omega
    case rel => refine ⟨j + 1, (h1 + 1) % n, L1, by omega, by go_num, rfl, k2, Or.inl hmod, HL1.out, ho2, ?_⟩;have:=HV.out;rw [HB.out] at this;exact this
   | true =>
    have HB:=hid hb;clear hb;cases ht : x.t with
    | false => rw [ht] at b2;have HT:=hid ht;clear ht;go_wp2_with (go_at_call 218; refine (open_is _ _ _ _ _ _ _ _ k2 HX.out HB.out).mono ?_; rintro e w' ⟨rfl, rfl⟩);rw [Exit.noGoto_ret];go_ret2;have:=HV.out;rw [HB.out, HT.out] at this;rw [this];exact ⟨rfl, k2, ho2⟩
    | true =>
     rw [ht] at b2;have HT:=hid ht;clear ht;have k3:=k2.setT HX.out false;go_wp2_with (go_at_call 218; refine (open_is _ _ _ _ _ _ _ _ k2 HX.out HB.out).mono ?_; rintro e w' ⟨rfl, rfl⟩);go_roundg g
     case measure => omega
     case rel => refine ⟨j + 1, (h1 + 1) % n, L1.set h1 { x with t:=false }, by omega, by go_num, rfl, k3, Or.inl hmod, by rw [length_set]; exact HL1.out, ho2.setB _ _, ?_⟩;have:=HV.out;rw [HB.out, HT.out] at this;exact this
end Ck
namespace Ck
theorem run_make_rowN {P : Program} (t e : TypeId) (i : TypeInfo) (z : Value) (ht : P.underlying t = some (.slice e)) (hi : P.info? e = some i) (hz : i.zero = some z)
  (kl kc : IntKind) (n c : Nat) (hnc : n <= c) (hbytes : i.bytes * c <= 281474976710656) (h63 : c <= 9223372036854775807) (w : World) :
  (Instr.makeSlice t (.int kl (n : Int)) (.int kc (c : Int))).run P w = .ok (.slice (some ⟨w.heap.size, 0, none⟩) n c) (w.alloc (.cells (madeCells z.cells (c * i.size)) e)):=by
 have hb : (i.bytes : Int) * (c : Int) <= 281474976710656:=by
  have h : ((i.bytes * c : Nat) : Int) <= 281474976710656:=by omega
  rwa [Int.natCast_mul] at h
 have hr:=run_make (P:=P) w t e i z ht hi hz kl kc n c (by omega) (by omega) hb (by omega);simp only [Int.toNat_natCast] at hr;exact hr
theorem Tryz.info152 : (Tryz.prog.info? 152).map (fun i => (i.zero, i.size, i.bytes)) = some (some (.agg #[.bool false, .bool false, .bool false]), 3, 3):=by kernel_rfl
def fresh (n : Nat) : List Pl:=List.replicate n ⟨false, false, false⟩
theorem cells_fresh (n : Nat) : cellsOf (fresh n) = List.replicate (n * 3) (.bool false):=by
 induction n with
 | zero => rfl
 | succ n ih =>
  have e : (n + 1) * 3 = n * 3 + 1 + 1 + 1:=by omega
  rw [fresh, List.replicate_succ, cellsOf_cons, e, List.replicate_succ, List.replicate_succ, List.replicate_succ];rw [fresh] at ih;rw [ih]
theorem made_fresh (n : Nat) : madeCells (Value.cells (.agg #[.bool false, .bool false, .bool false])) (n * 3) = (cellsOf (fresh n)).toArray:=by
 rw [cells_fresh];apply Array.ext
 ·simp [madeCells]
 ·intro i h1 h2;have h3 : i % 3 < 3:=Nat.mod_lt _ (by omega);simp only [madeCells, Value.cells, Array.getElem_map, Array.getElem_range, List.getElem_toArray, List.getElem_replicate];have : i % 3 = 0 \/ i % 3 = 1 \/ i % 3 = 2:=by omega
  rcases this with h | h | h <;> simp [h]
theorem new_bad (w : World) (n : Int) (h : n < 0 \/ 16384 < n) :
  Calls Tryz.prog 18 #[.int .i64 n] w fun e w' => e = .returned (.tuple #[.pointer none, .int .i64 2]) /\ w = w':=by
 by_cases h0 : n < 0
 ·clear h;go_enter Tryz.func18, Tryz.ntmps18;go_wp2;go_ret2;exact ⟨rfl, rfl⟩
 ·have h1 : 16384 < n:=by omega
  clear h;go_enter Tryz.func18, Tryz.ntmps18;go_wp2;go_ret2;exact ⟨rfl, rfl⟩
def NewPost (n : Nat) (w : World) (e : Ending) (w' : World) : Prop :=
 ∃ c lb, e = .returned (.tuple #[.pointer (some ⟨c, 0, none⟩), .int .i64 0]) /\ Clk w' c lb (fresh n) 0 /\ Below w.heap.size w w' /\ w.heap.size <= c /\ w.heap.size <= lb
theorem new_ok (w : World) (n : Nat) (h : n <= 16384) :
  Calls Tryz.prog 18 #[.int .i64 n] w (NewPost n w):=by
 obtain ⟨i0, hi, hz0, hz1, hz2⟩:=info_parts Tryz.info152;have hmk:=fun W => run_make_rowN (P:=Tryz.prog) 119 152 i0 _ Tryz.underlying119 hi hz0 .i64 .i64 n n (Nat.le_refl _) (by rw [hz2]; omega) (by omega) W;rw [hz1, made_fresh] at hmk;clear hi hz0 hz1 hz2;go_enter Tryz.func18, Tryz.ntmps18;go_wp2;go_ret2;refine ⟨w.heap.size + 1, w.heap.size, rfl, ⟨?_, ?_, by simpa [fresh] using h⟩, (((Below.refl _ w).alloc (Nat.le_refl _) _).alloc (by simp) _), by omega, by omega⟩
 ·have:=Blk.new (w.alloc (.cells (cellsOf (fresh n)).toArray 152)) 121 #[.slice (some ⟨w.heap.size, 0, none⟩) n n, .int .i64 0]
  simpa [fresh] using this
 ·exact (Blk.new w 152 (cellsOf (fresh n)).toArray).alloc _
def touchL (L : List Pl) : List Nat -> List Pl
 | [] => L
 | i :: r => match L[i]? with
  | none => touchL L r
  | some x => touchL (L.set i { x with t:=true }) r
def allIn (L : List Pl) (l : List Nat) : Prop:=∀ i ∈ l, ∃ x, L[i]? = some x /\ x.i = true
theorem touchL_length (L : List Pl) (l : List Nat) : (touchL L l).length = L.length:=by
 induction l generalizing L with
 | nil => rfl
 | cons i r ih =>
  unfold touchL;split
  ·exact ih L
  ·rw [ih]; simp
theorem allIn_touch (L : List Pl) (l : List Nat) (i : Nat) (x : Pl) (h : allIn L l) (hx : L[i]? = some x) : allIn (L.set i { x with t:=true }) l:=by
 intro j hj;obtain ⟨y, hy, hyi⟩:=h j hj;by_cases e : i = j
 ·subst e;rw [hx] at hy;cases hy
  exact ⟨{ x with t:=true }, by rw [List.getElem?_set_self ((List.getElem?_eq_some_iff.1 hx).1)], hyi⟩
 ·exact ⟨y, by rw [List.getElem?_set_ne e]; exact hy, hyi⟩
def ints (l : List Int) : Array Value:=(l.map (Value.int .i64)).toArray
theorem ints_get (l : List Int) (j : Nat) (i : Int) (h : l[j]? = some i) : (ints l)[j]? = some (.int .i64 i):=by simp [ints, h]
def badAt (L : List Pl) (i : Int) : Prop:=i < 0 \/ (L.length : Int) <= i \/ ∃ (j : Nat) (x : Pl), i = j /\ L[j]? = some x /\ x.i = false
def goodAt (L : List Pl) (i : Int) : Prop:=∃ (j : Nat) (x : Pl), i = j /\ L[j]? = some x /\ x.i = true
theorem at_bad (w : World) (c lb h : Nat) (L : List Pl) (i : Int) (k : Clk w c lb L h) (hb : badAt L i) :
  Calls Tryz.prog 61 #[.pointer (some ⟨c, 0, none⟩), .int .i64 i, .bool true] w fun e w' => e = .returned (.tuple #[.pointer none, .int .i64 4]) /\ w = w':=by
 rcases hb with h1 | h1 | ⟨j, x, rfl, hx, hi⟩
 ·exact at_none w c lb h L i true k (Or.inl h1)
 ·exact at_none w c lb h L i true k (Or.inr h1)
 ·exact at_not w c lb h L j x k hx hi
def someVal (v : Value) : Prop:=∃ a, v = .pointer (some a)
theorem at_good (w : World) (c lb h : Nat) (L : List Pl) (i : Int) (k : Clk w c lb L h) (hb : goodAt L i) :
  Calls Tryz.prog 61 #[.pointer (some ⟨c, 0, none⟩), .int .i64 i, .bool true] w fun e w' => e = .returned (.tuple #[.pointer (some ⟨lb, i.toNat * 3, none⟩), .int .i64 0]) /\ w = w':=by
 obtain ⟨j, x, rfl, hx, hi⟩:=hb;exact at_in w c lb h L j x k hx hi
theorem touch_bad (w : World) (c lb h tb m : Nat) (L : List Pl) (l : List Int) (k : Clk w c lb L h) (ht : Blk w tb 3 (ints l)) (hm : l.length <= 1000)
  (hml : m < l.length) (hgood : ∀ j i, j < m -> l[j]? = some i -> goodAt L i) (hbad : ∀ i, l[m]? = some i -> badAt L i) :
  Calls Tryz.prog 194 #[.pointer (some ⟨c, 0, none⟩), .slice (some ⟨tb, 0, none⟩) l.length l.length] w (Ret (.int .i64 4) c lb L h w):=by
 have HG:=hid hgood;have HB:=hid hbad;obtain ⟨n, hn⟩ : ∃ n, n = l.length:=⟨_, rfl⟩;rw [<- hn] at hm hml;rw [<- hn];have HN:=hid hn;clear hgood hbad hn;go_enter Tryz.func194, Tryz.ntmps194;go_wp2;go_loopg [15] m (fun g s15 wr => ∃ j : Nat, j + g = m /\ s15 = .int .i64 j /\ w = wr)
 case atStart => exact ⟨0, by omega, rfl, rfl⟩
 case round =>
  obtain ⟨j, hj, rfl, rfl⟩:=hrel;have hjn : (j : Int) < (n : Int):=by omega
  have hjl : j < l.length:=by have:=HN.out; omega
  obtain ⟨i, hi⟩ : ∃ i, l[j]? = some i:=⟨_, getElem?_eq_getElem hjl⟩;have hc : w.cell? ⟨tb, j, none⟩ = some (.int .i64 i):=(ht.cell j).trans (ints_get l j i hi);have HI:=hid hi;clear hi hjl;cases gk with
  | zero => have hb : badAt L i:=HB.out i (by rw [show m = j by omega]; exact HI.out);have HBA:=hid hb;clear hb;go_wp2_with (go_at_call 61; refine (at_bad _ _ _ _ _ _ k HBA.out).mono ?_; rintro e w' ⟨rfl, rfl⟩);go_ret;exact ⟨rfl, k, Only.refl _ _ _⟩
  | succ g =>
   have hb : goodAt L i:=HG.out j i (by omega) HI.out;have HBA:=hid hb;clear hb;go_wp2_with (go_at_call 61; refine (at_good _ _ _ _ _ _ k HBA.out).mono ?_; rintro e w' ⟨rfl, rfl⟩);go_roundg g
   case measure => omega
   case rel => exact ⟨j + 1, by omega, by go_num, rfl⟩
theorem touch_ok (w : World) (c lb h tb : Nat) (L : List Pl) (l : List Nat) (k : Clk w c lb L h) (ht : Blk w tb 3 (ints (l.map Int.ofNat))) (hm : l.length <= 1000)
  (hgood : allIn L l) :
  Calls Tryz.prog 194 #[.pointer (some ⟨c, 0, none⟩), .slice (some ⟨tb, 0, none⟩) l.length l.length] w (Ret (.int .i64 0) c lb (touchL L l) h w):=by
 have HG:=hid hgood;have htb1 : tb ≠ c:=by rintro rfl;have:=k.head;unfold Blk at this ht;rw [this] at ht;injection ht with ht;injection ht with _ ht;exact absurd ht (by decide)
 have htb2 : tb ≠ lb:=by rintro rfl;have:=k.body;unfold Blk at this ht;rw [this] at ht;injection ht with ht;injection ht with _ ht;exact absurd ht (by decide)
 obtain ⟨n, hn⟩ : ∃ n, n = l.length:=⟨_, rfl⟩;rw [<- hn] at hm;rw [<- hn];have HN:=hid hn;have hs:=k.size;clear hgood hn;go_enter Tryz.func194, Tryz.ntmps194;go_wp2;go_loopg [15] n (fun g s15 wr => ∃ j : Nat, j + g = n /\ s15 = .int .i64 j /\ w = wr)
 case atStart => exact ⟨0, by omega, rfl, rfl⟩
 case round =>
  obtain ⟨j, hj, rfl, rfl⟩:=hrel;cases gk with
  | zero =>
   have hjn : ¬ ((j : Int) < (n : Int)):=by omega
   go_wp2;clear hj hjn;go_loopg [31] n (fun g s31 wr => ∃ (j : Nat) (L1 : List Pl), j + g = n /\ s31 = .int .i64 j /\ Clk wr c lb L1 h /\ L1.length = L.length /\ Only c lb w wr /\ Aside (allIn L1 (l.drop j) /\ touchL L1 (l.drop j) = touchL L l))
   case atStart => exact ⟨0, L, by omega, rfl, k, rfl, Only.refl _ _ _, by rw [List.drop_zero]; exact HG.out, by rw [List.drop_zero]⟩
   case round =>
    obtain ⟨j, L1, hj, rfl, k1, hl1, ho, hA⟩:=hrel;cases gk with
    | zero =>
     have hjn : ¬ ((j : Int) < (n : Int)):=by omega
     go_wp2;go_ret;have h2:=hA.out.2;have hnn:=HN.out;rw [List.drop_eq_nil_of_le (by omega)] at h2;rw [<- h2];exact ⟨rfl, k1, ho⟩
    | succ g =>
     have hjn : ((j : Int) < (n : Int)):=by omega
     have hjl : j < l.length:=by have:=HN.out; omega
     obtain ⟨i, hi⟩ : ∃ i, l[j]? = some i:=⟨_, getElem?_eq_getElem hjl⟩;have hdrop : l.drop j = i :: l.drop (j + 1):=by rw [List.drop_eq_getElem_cons hjl];rw [getElem?_eq_getElem hjl] at hi;injection hi with hi;rw [hi]
     have htw:=ho.blk ht htb1 htb2;have hc : wr.cell? ⟨tb, j, none⟩ = some (.int .i64 (i : Int)):=(htw.cell j).trans (ints_get _ j i (by rw [List.getElem?_map, hi]; rfl));obtain ⟨hA1, hA2⟩:=hA.out;rw [hdrop] at hA1 hA2;obtain ⟨x, hx, hxi⟩:=hA1 i (by simp);have hil : i < L.length:=by have:=(List.getElem?_eq_some_iff.1 hx).1; omega
     have d0:=k1.c0;rw [hl1] at d0;have b2:=k1.bt hx;have f2:=k1.bf (i * 3 + 1);have k2:=k1.setT hx true;have hN : Aside (allIn (L1.set i { x with t:=true }) (l.drop (j + 1)) /\ touchL (L1.set i { x with t:=true }) (l.drop (j + 1)) = touchL L l):=by refine ⟨allIn_touch _ _ _ _ (fun y hy => hA1 y (by simp [hy])) hx, ?_⟩;rw [<- hA2];rw [touchL, hx]
     have HL1:=hid hl1;clear hA hA1 hA2 hx hxi hdrop hi hjl hl1 htw;go_wp2;go_roundg g
     case measure => omega
     case rel => exact ⟨j + 1, _, by omega, by go_num, k2, by rw [length_set]; exact HL1.out, ho.setB _ _, hN⟩
  | succ g =>
   have hjn : (j : Int) < (n : Int):=by omega
   have hjl : j < l.length:=by have:=HN.out; omega
   obtain ⟨i, hi⟩ : ∃ i, l[j]? = some i:=⟨_, getElem?_eq_getElem hjl⟩;have hc : w.cell? ⟨tb, j, none⟩ = some (.int .i64 (i : Int)):=(ht.cell j).trans (ints_get _ j i (by rw [List.getElem?_map, hi]; rfl));have hb : goodAt L (i : Int):=by obtain ⟨x, hx, hxi⟩:=HG.out i (mem_of_getElem? hi);exact ⟨i, x, rfl, hx, hxi⟩
   have HBA:=hid hb;clear hb hi hjl;go_wp2_with (go_at_call 61; refine (at_good _ _ _ _ _ _ k HBA.out).mono ?_; rintro e w' ⟨rfl, rfl⟩);go_roundg g
   case measure => omega
   case rel => exact ⟨j + 1, by omega, by go_num, rfl⟩
end Ck
end Go.Proofs.YtgaemfghpibeeaaGreatDoor
namespace Go.Proofs.YtgaemfghpibeeaaGreatDoor
def startM (len : Nat) (id : Int) : Nat:=(id * 2654435761 % 18446744073709551616 % len).toNat
theorem startM_lt {len : Nat} (h : 0 < len) (id : Int) : startM len id < len:=by unfold startM;have h1:=Int.emod_nonneg (id * 2654435761 % 18446744073709551616) (show (len : Int) ≠ 0 by omega);have h2:=Int.emod_lt_of_pos (id * 2654435761 % 18446744073709551616) (show (0 : Int) < len by omega);omega
def findM (ids hash : List Int) (id : Int) : Nat -> Nat -> Int -> Int × Bool
 | 0, _, op => (op, false)
 | f + 1, k, op =>
  if hash.getD k 0 = 0 then ((if op = -1 then (k : Int) else op), false)
  else if hash.getD k 0 = -1 then findM ids hash id f ((k + 1) % hash.length) (if op = -1 then (k : Int) else op)
  else if ids.getD (hash.getD k 0).toNat 0 = id then ((k : Int), true)
  else findM ids hash id f ((k + 1) % hash.length) op
def findF (ids hash : List Int) (id : Int) : Int × Bool:=findM ids hash id hash.length (startM hash.length id) (-1)
structure NmInv (N : Nat) (ids hash : List Int) : Prop where
 lenI : ids.length = N + 1
 lenH : hash.length = 2 * N + 1
 z0 : ids.getD 0 0 = 0
 rng : ∀ k, k < 2 * N + 1 -> hash.getD k 0 = 0 \/ hash.getD k 0 = -1 \/ ∃ s : Nat, hash.getD k 0 = s /\ 1 <= s /\ s <= N /\ ids.getD s 0 ≠ 0
 inj : ∀ k k', k < 2 * N + 1 -> k' < 2 * N + 1 -> hash.getD k 0 = hash.getD k' 0 -> 0 < hash.getD k 0 -> k = k'
 pos : ∀ s, 1 <= s -> s <= N -> ids.getD s 0 ≠ 0 -> ∃ d, d < 2 * N + 1 /\ hash.getD ((startM (2 * N + 1) (ids.getD s 0) + d) % (2 * N + 1)) 0 = s /\ ∀ d', d' < d -> hash.getD ((startM (2 * N + 1) (ids.getD s 0) + d') % (2 * N + 1)) 0 ≠ 0
 dist : ∀ s s', ids.getD s 0 = ids.getD s' 0 -> ids.getD s 0 ≠ 0 -> s = s'
 idr : ∀ s, 0 <= ids.getD s 0 /\ ids.getD s 0 < 1073741824
theorem mod_step (x len : Nat) : (x % len + 1) % len = (x + 1) % len:=by rw [Nat.add_mod (x % len), Nat.mod_mod, <- Nat.add_mod]
theorem mod_inj {a d d' len : Nat} (h : d < len) (h' : d' < len) (e : (a + d) % len = (a + d') % len) : d = d':=by
 have key : ∀ x y, x <= y -> y < len -> (a + x) % len = (a + y) % len -> x = y:=by intro x y hxy hy e;have h1 : (a + y - (a + x)) % len = 0:=Nat.sub_mod_eq_zero_of_mod_eq e.symm;rw [show a + y - (a + x) = y - x by omega, Nat.mod_eq_of_lt (by omega)] at h1;omega
 rcases Nat.le_total d d' with hl | hl
 ·exact key d d' hl h' e
 ·exact (key d' d hl h e.symm).symm
section
variable {N : Nat} {ids hash : List Int} {id : Int}
theorem find_bound (I : NmInv N ids hash) {s : Nat} (h1 : 1 <= s) (h2 : s <= N) (hs : ids.getD s 0 = id) (hid : id ≠ 0) : ∃ k : Nat, k < 2 * N + 1 /\ findF ids hash id = ((k : Int), true) /\ hash.getD k 0 = s:=by
 obtain ⟨d0, hd0, he, hp⟩:=I.pos s h1 h2 (by rw [hs]; exact hid);rw [hs] at he hp;refine ⟨(startM (2 * N + 1) id + d0) % (2 * N + 1), Nat.mod_lt _ (by omega), ?_, he⟩;have key : ∀ (g d : Nat), d + g = d0 -> ∀ op f, 2 * N + 1 - d <= f -> findM ids hash id f ((startM (2 * N + 1) id + d) % (2 * N + 1)) op = ((((startM (2 * N + 1) id + d0) % (2 * N + 1) : Nat) : Int), true):=by
  intro g
  induction g with
  | zero =>
   intro d hd op f hf;obtain rfl : d = d0:=by omega
   obtain ⟨f', rfl⟩ : ∃ f', f = f' + 1:=⟨f - 1, by omega⟩;unfold findM;rw [he, if_neg (by omega), if_neg (by omega), Int.toNat_natCast, if_pos hs]
  | succ g ih =>
   intro d hd op f hf;obtain ⟨f', rfl⟩ : ∃ f', f = f' + 1:=⟨f - 1, by omega⟩;have hnz:=hp d (by omega);have hlt : (startM (2 * N + 1) id + d) % (2 * N + 1) < 2 * N + 1:=Nat.mod_lt _ (by omega);have hstep : ((startM (2 * N + 1) id + d) % (2 * N + 1) + 1) % hash.length = (startM (2 * N + 1) id + (d + 1)) % (2 * N + 1):=by rw [I.lenH, mod_step]; rfl
   unfold findM;rw [if_neg hnz, hstep];by_cases hg : hash.getD ((startM (2 * N + 1) id + d) % (2 * N + 1)) 0 = -1
   ·rw [if_pos hg]; exact ih (d + 1) (by omega) _ _ (by omega)
   ·rw [if_neg hg];rcases I.rng _ hlt with h | h | ⟨s', h, h3, h4, h5⟩
    ·exact absurd h hnz
    ·exact absurd h hg
    ·rw [h, Int.toNat_natCast];have hne : ids.getD s' 0 ≠ id:=by intro e;have:=I.dist s' s (by rw [e, hs]) (by rw [e]; exact hid);subst this;have:=I.inj _ _ hlt (Nat.mod_lt _ (by omega)) (h.trans he.symm) (by omega);have:=mod_inj (show d < 2 * N + 1 by omega) hd0 this;omega
     rw [if_neg hne];exact ih (d + 1) (by omega) _ _ (by omega)
 have:=key d0 0 (by omega) (-1) (2 * N + 1) (by omega);unfold findF;rw [I.lenH];simp only [Nat.add_zero] at this;rw [Nat.mod_eq_of_lt (startM_lt (show 0 < 2 * N + 1 by omega) id)] at this;exact this
def Open (N : Nat) (hash : List Int) (id : Int) (op : Int) : Prop :=
 ∃ d, d < 2 * N + 1 /\ op = (((startM (2 * N + 1) id + d) % (2 * N + 1) : Nat) : Int) /\ (hash.getD ((startM (2 * N + 1) id + d) % (2 * N + 1)) 0 = 0 \/ hash.getD ((startM (2 * N + 1) id + d) % (2 * N + 1)) 0 = -1) /\
  ∀ d', d' < d -> hash.getD ((startM (2 * N + 1) id + d') % (2 * N + 1)) 0 ≠ 0
theorem nodup_le : ∀ (n : Nat) (l : List Nat), l.Nodup -> (∀ x ∈ l, x < n) -> l.length <= n:=by
 intro n
 induction n with
 | zero =>
  intro l _ h;cases l with
  | nil => simp
  | cons x l => exact absurd (h x (by simp)) (by omega)
 | succ n ih =>
  intro l hn h;by_cases hm : n ∈ l
  ·have h1:=ih (l.erase n) (hn.erase n) (by
    intro x hx;have:=h x (List.mem_of_mem_erase hx);have hne : x ≠ n:=(hn.mem_erase_iff.1 hx).1;omega)
   rw [List.length_erase_of_mem hm] at h1;omega
  ·have:=ih l hn (by
    intro x hx;have:=h x hx;have : x ≠ n:=by intro e; subst e; exact hm hx
    omega)
   omega
theorem some_open (I : NmInv N ids hash) : ¬ ∀ k, k < 2 * N + 1 -> 0 < hash.getD k 0:=by
 intro hall;have h1 : ((List.range (2 * N + 1)).map fun k => (hash.getD k 0).toNat).Nodup:=by rw [List.nodup_iff_pairwise_ne, List.pairwise_map];refine List.Pairwise.imp_of_mem ?_ (List.nodup_iff_pairwise_ne.1 List.nodup_range);intro a b ha hb hne e;rw [List.mem_range] at ha hb;have:=hall a ha;have:=hall b hb;exact hne (I.inj a b ha hb (by omega) (by omega))
 have h2:=nodup_le (N + 1) _ h1 (by
  intro x hx;obtain ⟨k, hk, rfl⟩:=List.mem_map.1 hx;rw [List.mem_range] at hk;have:=hall k hk;rcases I.rng k hk with h | h | ⟨s, h, _, h4, _⟩
  ·omega
  ·omega
  ·rw [h]; omega)
 rw [List.length_map, List.length_range] at h2;rcases Nat.eq_zero_or_pos N with h0 | h0
 ·have:=hall 0 (by omega);rcases I.rng 0 (by omega) with h | h | ⟨s, h, h3, h4, _⟩ <;> omega
 ·omega
theorem find_none (I : NmInv N ids hash) (hn : ∀ s, 1 <= s -> s <= N -> ids.getD s 0 ≠ id) : ∃ op : Int, findF ids hash id = (op, false) /\ Open N hash id op:=by
 have key : ∀ (f d : Nat), d + f = 2 * N + 1 -> ∀ op, (op = -1 -> ∀ d', d' < d -> 0 < hash.getD ((startM (2 * N + 1) id + d') % (2 * N + 1)) 0) -> (op ≠ -1 -> Open N hash id op) -> (∀ d', d' < d -> hash.getD ((startM (2 * N + 1) id + d') % (2 * N + 1)) 0 ≠ 0) ->
   ∃ op', findM ids hash id f ((startM (2 * N + 1) id + d) % (2 * N + 1)) op = (op', false) /\ Open N hash id op':=by
  intro f
  induction f with
  | zero =>
   intro d hd op h1 h2 _;refine ⟨op, rfl, ?_⟩;by_cases e : op = -1
   ·exfalso;refine some_open I ?_;intro k hk;have h3:=h1 e;have hs:=startM_lt (show 0 < 2 * N + 1 by omega) id;have : ∃ d', d' < d /\ (startM (2 * N + 1) id + d') % (2 * N + 1) = k:=by
     rcases Nat.lt_or_ge k (startM (2 * N + 1) id) with h | h
     ·refine ⟨k + (2 * N + 1) - startM (2 * N + 1) id, by omega, ?_⟩;rw [show startM (2 * N + 1) id + (k + (2 * N + 1) - startM (2 * N + 1) id) = k + (2 * N + 1) by omega, Nat.add_mod_right, Nat.mod_eq_of_lt hk]
     ·refine ⟨k - startM (2 * N + 1) id, by omega, ?_⟩;rw [show startM (2 * N + 1) id + (k - startM (2 * N + 1) id) = k by omega, Nat.mod_eq_of_lt hk]
    obtain ⟨d', hd', rfl⟩:=this;exact h3 d' hd'
   ·exact h2 e
  | succ f ih =>
   intro d hd op h1 h2 h3;have hlt : (startM (2 * N + 1) id + d) % (2 * N + 1) < 2 * N + 1:=Nat.mod_lt _ (by omega);have hstep : ((startM (2 * N + 1) id + d) % (2 * N + 1) + 1) % hash.length = (startM (2 * N + 1) id + (d + 1)) % (2 * N + 1):=by rw [I.lenH, mod_step]; rfl
   have hold : hash.getD ((startM (2 * N + 1) id + d) % (2 * N + 1)) 0 = 0 \/ hash.getD ((startM (2 * N + 1) id + d) % (2 * N + 1)) 0 = -1 -> Open N hash id (if op = -1 then (((startM (2 * N + 1) id + d) % (2 * N + 1) : Nat) : Int) else op):=by
    intro h;by_cases e : op = -1
    ·rw [if_pos e]; exact ⟨d, by omega, rfl, h, h3⟩
    ·rw [if_neg e]; exact h2 e
   unfold findM;by_cases h0 : hash.getD ((startM (2 * N + 1) id + d) % (2 * N + 1)) 0 = 0
   ·rw [if_pos h0];exact ⟨_, rfl, hold (.inl h0)⟩
   ·rw [if_neg h0, hstep];have h3' : ∀ d', d' < d + 1 -> hash.getD ((startM (2 * N + 1) id + d') % (2 * N + 1)) 0 ≠ 0:=by
     intro d' hd';rcases Nat.lt_or_ge d' d with h | h
     ·exact h3 d' h
     ·obtain rfl : d' = d:=by omega
      exact h0
    by_cases hg : hash.getD ((startM (2 * N + 1) id + d) % (2 * N + 1)) 0 = -1
    ·rw [if_pos hg];refine ih (d + 1) (by omega) _ ?_ (fun _ => hold (.inr hg)) h3';intro e;by_cases e1 : op = -1
     ·rw [if_pos e1] at e; omega
     ·rw [if_neg e1] at e; exact absurd e e1
    ·rw [if_neg hg];rcases I.rng _ hlt with h | h | ⟨s', h, h4, h5, h6⟩
     ·exact absurd h h0
     ·exact absurd h hg
     ·rw [h, Int.toNat_natCast, if_neg (hn s' h4 h5)];refine ih (d + 1) (by omega) op ?_ h2 h3';intro e d' hd';rcases Nat.lt_or_ge d' d with h7 | h7
      ·exact h1 e d' h7
      ·obtain rfl : d' = d:=by omega
       rw [h]; omega
 have:=key (2 * N + 1) 0 (by omega) (-1) (fun _ d' h => by omega) (fun h => absurd rfl h) (fun d' h => by omega);simp only [Nat.add_zero] at this;rw [Nat.mod_eq_of_lt (startM_lt (show 0 < 2 * N + 1 by omega) id)] at this;unfold findF;rw [I.lenH];exact this
theorem getD_set (l : List Int) (i j : Nat) (v : Int) : (l.set i v).getD j 0 = if i = j /\ j < l.length then v else l.getD j 0:=by
 rw [getD_eq_getElem?_getD, getD_eq_getElem?_getD, List.getElem?_set];by_cases e : i = j
 ·subst e;by_cases h : i < l.length
  ·rw [if_pos rfl, if_pos h, if_pos ⟨rfl, h⟩]; rfl
  ·rw [if_pos rfl, if_neg h, if_neg (by omega), List.getElem?_eq_none (by omega)]
 ·rw [if_neg e, if_neg (by omega)]
theorem NmInv.bind (I : NmInv N ids hash) {s : Nat} (h1 : 1 <= s) (h2 : s <= N) (hf : ids.getD s 0 = 0) (hid : 1 <= id /\ id < 1073741824) (hn : ∀ s, 1 <= s -> s <= N -> ids.getD s 0 ≠ id) {op : Int} (ho : Open N hash id op) :
  NmInv N (ids.set s id) (hash.set op.toNat s):=by
 obtain ⟨d, hd, rfl, hop, hpath⟩:=ho;rw [Int.toNat_natCast];obtain ⟨k, hk⟩ : ∃ k, k = (startM (2 * N + 1) id + d) % (2 * N + 1):=⟨_, rfl⟩;have hkl : k < 2 * N + 1:=by rw [hk]; exact Nat.mod_lt _ (by omega)
 rw [<- hk] at hop ⊢;have gi : ∀ j, (ids.set s id).getD j 0 = if s = j then id else ids.getD j 0:=by
  intro j;rw [getD_set];by_cases e : s = j
  ·rw [if_pos ⟨e, by rw [I.lenI]; omega⟩, if_pos e]
  ·rw [if_neg (by omega), if_neg e]
 have gh : ∀ j, (hash.set k s).getD j 0 = if k = j then (s : Int) else hash.getD j 0:=by
  intro j;rw [getD_set];by_cases e : k = j
  ·rw [if_pos ⟨e, by rw [I.lenH]; omega⟩, if_pos e]
  ·rw [if_neg (by omega), if_neg e]
 have nots : ∀ j, j < 2 * N + 1 -> hash.getD j 0 ≠ s:=by
  intro j hj e;rcases I.rng j hj with h | h | ⟨s', h, _, _, h6⟩
  ·omega
  ·omega
  ·rw [e] at h;have : s = s':=by omega
   subst this;exact h6 hf
 refine ⟨by rw [length_set]; exact I.lenI, by rw [length_set]; exact I.lenH, ?_, ?_, ?_, ?_, ?_, ?_⟩
 ·rw [gi, if_neg (by omega)]; exact I.z0
 ·intro j hj;rw [gh];by_cases e : k = j
  ·rw [if_pos e]; exact .inr (.inr ⟨s, rfl, h1, h2, by rw [gi, if_pos rfl]; omega⟩)
  ·rw [if_neg e];rcases I.rng j hj with h | h | ⟨s', h, h4, h5, h6⟩
   ·exact .inl h
   ·exact .inr (.inl h)
   ·refine .inr (.inr ⟨s', h, h4, h5, ?_⟩);rw [gi];by_cases e2 : s = s'
    ·rw [if_pos e2]; omega
    ·rw [if_neg e2]; exact h6
 ·intro a b ha hb e hp;rw [gh, gh] at e;rw [gh] at hp;by_cases ea : k = a
  ·by_cases eb : k = b
   ·omega
   ·rw [if_pos ea, if_neg eb] at e; exact absurd e.symm (nots b hb)
  ·by_cases eb : k = b
   ·rw [if_neg ea, if_pos eb] at e; exact absurd e (nots a ha)
   ·rw [if_neg ea, if_neg eb] at e;rw [if_neg ea] at hp;exact I.inj a b ha hb e hp
 ·intro s' h4 h5 h6;rw [gi] at h6 ⊢;by_cases e : s = s'
  ·subst e;rw [if_pos rfl] at h6 ⊢;refine ⟨d, hd, by rw [gh, if_pos hk], ?_⟩;intro d' hd';rw [gh];by_cases e2 : k = (startM (2 * N + 1) id + d') % (2 * N + 1)
   ·rw [if_pos e2]; omega
   ·rw [if_neg e2]; exact hpath d' hd'
  ·rw [if_neg e] at h6 ⊢;obtain ⟨d2, hd2, he2, hp2⟩:=I.pos s' h4 h5 h6;refine ⟨d2, hd2, ?_, ?_⟩
   ·rw [gh];by_cases e2 : k = (startM (2 * N + 1) (ids.getD s' 0) + d2) % (2 * N + 1)
    ·rw [<- e2] at he2;rcases hop with h | h <;> omega
    ·rw [if_neg e2]; exact he2
   ·intro d' hd';rw [gh];by_cases e2 : k = (startM (2 * N + 1) (ids.getD s' 0) + d') % (2 * N + 1)
    ·rw [if_pos e2]; omega
    ·rw [if_neg e2]; exact hp2 d' hd'
 ·intro a b e hne;rw [gi, gi] at e;rw [gi] at hne;have out : ∀ j, ids.getD j 0 = id -> False:=by
   intro j hj;rcases Nat.lt_or_ge j (N + 1) with h | h
   ·rcases Nat.eq_zero_or_pos j with h0 | h0
    ·subst h0; have:=I.z0; omega
    ·exact hn j h0 (by omega) hj
   ·rw [getD_eq_getElem?_getD, List.getElem?_eq_none (by rw [I.lenI]; omega)] at hj;simp at hj; omega
  by_cases ea : s = a
  ·by_cases eb : s = b
   ·omega
   ·rw [if_pos ea, if_neg eb] at e; exact absurd e.symm (fun h => out b h)
  ·by_cases eb : s = b
   ·rw [if_neg ea, if_pos eb] at e; exact absurd e (fun h => out a h)
   ·rw [if_neg ea, if_neg eb] at e;rw [if_neg ea] at hne;exact I.dist a b e hne
 ·intro j;rw [gi];by_cases e : s = j
  ·rw [if_pos e]; omega
  ·rw [if_neg e]; exact I.idr j
theorem NmInv.free (I : NmInv N ids hash) {s : Nat} (h1 : 1 <= s) (h2 : s <= N) {k : Nat} (hk : k < 2 * N + 1) (hs : hash.getD k 0 = s) : NmInv N (ids.set s 0) (hash.set k (-1)):=by
 have gi : ∀ j, (ids.set s 0).getD j 0 = if s = j then 0 else ids.getD j 0:=by
  intro j;rw [getD_set];by_cases e : s = j
  ·rw [if_pos ⟨e, by rw [I.lenI]; omega⟩, if_pos e]
  ·rw [if_neg (by omega), if_neg e]
 have gh : ∀ j, (hash.set k (-1)).getD j 0 = if k = j then (-1 : Int) else hash.getD j 0:=by
  intro j;rw [getD_set];by_cases e : k = j
  ·rw [if_pos ⟨e, by rw [I.lenH]; omega⟩, if_pos e]
  ·rw [if_neg (by omega), if_neg e]
 refine ⟨by rw [length_set]; exact I.lenI, by rw [length_set]; exact I.lenH, ?_, ?_, ?_, ?_, ?_, ?_⟩
 ·rw [gi, if_neg (by omega)]; exact I.z0
 ·intro j hj;rw [gh];by_cases e : k = j
  ·rw [if_pos e]; exact .inr (.inl rfl)
  ·rw [if_neg e];rcases I.rng j hj with h | h | ⟨s', h, h4, h5, h6⟩
   ·exact .inl h
   ·exact .inr (.inl h)
   ·refine .inr (.inr ⟨s', h, h4, h5, ?_⟩);have hne : s ≠ s':=by intro e2;subst e2;exact e (I.inj k j hk hj (hs.trans h.symm) (by omega))
    rw [gi, if_neg hne]; exact h6
 ·intro a b ha hb e hp;rw [gh, gh] at e;rw [gh] at hp;by_cases ea : k = a
  ·rw [if_pos ea] at hp; omega
  ·rw [if_neg ea] at e hp;by_cases eb : k = b
   ·rw [if_pos eb] at e; omega
   ·rw [if_neg eb] at e; exact I.inj a b ha hb e hp
 ·intro s' h4 h5 h6;rw [gi] at h6 ⊢;by_cases e : s = s'
  ·rw [if_pos e] at h6; exact absurd rfl h6
  ·rw [if_neg e] at h6 ⊢;obtain ⟨d2, hd2, he2, hp2⟩:=I.pos s' h4 h5 h6;refine ⟨d2, hd2, ?_, ?_⟩
   ·rw [gh];by_cases e2 : k = (startM (2 * N + 1) (ids.getD s' 0) + d2) % (2 * N + 1)
    ·rw [<- e2, hs] at he2; omega
    ·rw [if_neg e2]; exact he2
   ·intro d' hd';rw [gh];by_cases e2 : k = (startM (2 * N + 1) (ids.getD s' 0) + d') % (2 * N + 1)
    ·rw [if_pos e2]; omega
    ·rw [if_neg e2]; exact hp2 d' hd'
 ·intro a b e hne;rw [gi, gi] at e;rw [gi] at hne;by_cases ea : s = a
  ·rw [if_pos ea] at hne; exact absurd rfl hne
  ·rw [if_neg ea] at e hne;by_cases eb : s = b
   ·rw [if_pos eb] at e; exact absurd e hne
   ·rw [if_neg eb] at e; exact I.dist a b e hne
 ·intro j;rw [gi];by_cases e : s = j
  ·rw [if_pos e]; omega
  ·rw [if_neg e]; exact I.idr j
theorem NmInv.new (N : Nat) : NmInv N (List.replicate (N + 1) 0) (List.replicate (2 * N + 1) 0):=by
 have g : ∀ n j, (List.replicate n (0 : Int)).getD j 0 = 0:=by intro n j;rw [getD_eq_getElem?_getD, List.getElem?_replicate];split <;> rfl
 refine ⟨by simp, by simp, g _ _, fun k _ => .inl (g _ _), ?_, ?_, ?_, ?_⟩
 ·intro k k' _ _ _ h; rw [g] at h; omega
 ·intro s _ _ h; exact absurd (g _ _) h
 ·intro s s' _ h; exact absurd (g _ _) h
 ·intro s; rw [g]; omega
end
end Go.Proofs.YtgaemfghpibeeaaGreatDoor
namespace Go.Proofs.YtgaemfghpibeeaaGreatDoor
open Go.RowKit
structure NmP where
 t : Nat
 i : Nat
 h : Nat
def NmP.set (P : NmP) (k : Nat) : Prop:=k = P.t \/ k = P.i \/ k = P.h
structure NmAt (w : World) (P : NmP) (ids hash : List Int) : Prop where
 head : ∃ n, Blk w P.t 118 #[.slice (some ⟨P.i, 0, none⟩) ids.length ids.length, .slice (some ⟨P.h, 0, none⟩) hash.length hash.length, .int .i64 n]
 ids : Blk w P.i 3 (intCells ids)
 hash : Blk w P.h 3 (intCells hash)
 apart : P.t ≠ P.i /\ P.t ≠ P.h /\ P.i ≠ P.h
theorem NmAt.only {S : Nat -> Prop} {w w' : World} {P : NmP} {ids hash : List Int} (h : NmAt w P ids hash) (ho : Only S w w') (hs : ∀ k, P.set k -> ¬ S k) : NmAt w' P ids hash:=by obtain ⟨n, hn⟩:=h.head;exact ⟨⟨n, hn.only ho (hs _ (.inl rfl))⟩, h.ids.only ho (hs _ (.inr (.inl rfl))), h.hash.only ho (hs _ (.inr (.inr rfl))), h.apart⟩
theorem NmAt.lt {w : World} {P : NmP} {ids hash : List Int} (h : NmAt w P ids hash) : ∀ k, P.set k -> k < w.heap.size:=by
 obtain ⟨n, hn⟩:=h.head;rintro k (rfl | rfl | rfl)
 ·exact hn.lt
 ·exact h.ids.lt
 ·exact h.hash.lt
theorem intCells_get (xs : List Int) (i : Nat) (h : i < xs.length) : (intCells xs)[i]? = some (.int .i64 (xs.getD i 0)):=by simp [intCells, getD_eq_getElem?_getD, h]
theorem intCells_set (xs : List Int) (i : Nat) (v : Int) : (intCells xs).setIfInBounds i (.int .i64 v) = intCells (xs.set i v):=by simp [intCells, List.map_set]
theorem find_any (P : NmP) (N : Nat) (ids hash : List Int) (id : Int) (w : World) (h : NmAt w P ids hash) (I : NmInv N ids hash) (hN : N <= 16383) (hid : 0 <= id /\ id < 1073741824) :
  Calls Tryz.prog 180 #[.pointer (some ⟨P.t, 0, none⟩), .int .i64 id] w fun e w' => e = .returned (.tuple #[.int .i64 (findF ids hash id).1, .bool (findF ids hash id).2]) /\ w = w':=by
 obtain ⟨n, hn⟩:=h.head;have c0:=hn.cell 0;have c1:=hn.cell 1;simp only [qTa, qTb, qTc] at c0 c1;have hlI:=I.lenI;have hlH:=I.lenH;obtain ⟨L, hL⟩ : ∃ L, L = hash.length:=⟨_, rfl⟩;obtain ⟨M, hM⟩ : ∃ M, M = ids.length:=⟨_, rfl⟩;rw [<- hL] at c1 hlH;rw [<- hM] at c0 hlI;have hL1 : 1 <= L:=by omega
 have hL2 : L <= 40000:=by omega
 have hM2 : M = N + 1:=hlI;have hLN : L = 2 * N + 1:=hlH;have HL:=Lib.hid hL;have HM:=Lib.hid hM;have HI:=Lib.hid h.ids;have HH:=Lib.hid h.hash;have HV:=Lib.hid I;have HLN:=Lib.hid hLN;have HM2:=Lib.hid hM2;have hst : ((startM L id : Nat) : Int) = id * 2654435761 % 18446744073709551616 % L:=by unfold startM;have:=Int.emod_nonneg (id * 2654435761 % 18446744073709551616) (show (L : Int) ≠ 0 by omega);omega
 have hwr : wrap64 (id * 2654435761 % L) = (startM L id : Nat):=by have h1:=Int.emod_nonneg (id * 2654435761) (show (L : Int) ≠ 0 by omega);have h2:=Int.emod_lt_of_pos (id * 2654435761) (show (0 : Int) < L by omega);rw [hst, Int.emod_eq_of_lt (b:=18446744073709551616) (by omega) (by omega)];unfold wrap64;omega
 have hst2 : startM L id < L:=startM_lt (by omega) id;have HST:=Lib.hid hst;have hff : findF ids hash id = findM ids hash id L (startM L id) (-1):=by unfold findF; rw [<- hL]
 have HFF:=Lib.hid hff;obtain ⟨k0, hk0⟩ : ∃ k, k = startM L id:=⟨_, rfl⟩;rw [<- hk0] at hst2 hwr;have HWR:=Lib.hid hwr;have HK0:=Lib.hid hk0;clear hwr hL hM hlI hlH h I hst hff hM2 hLN hk0 hn;go_enter Tryz.func180, Tryz.ntmps180;go_wp2_with fail;go_step3
 go_wp2_with fail;go_step3
 rw [HWR.out];go_wp2_with fail;have hfin : findM ids hash id L k0 (-1) = findF ids hash id:=by rw [HFF.out, HK0.out]
 have HFIN:=Lib.hid hfin;clear hfin;go_loopg [6, 7, 8, 25] L (fun g s6 s7 s8 s25 wr => ∃ (j k : Nat) (op : Int), j + g = L /\ s25 = .int .i64 j /\ s7 = .int .i64 k /\ k < L /\ s6 = .int .i64 op /\ wr = w /\ Aside (findM ids hash id g k op = findF ids hash id))
 case atStart => exact ⟨0, k0, -1, by omega, rfl, rfl, hst2, rfl, rfl, HFIN.out⟩
 case round =>
  obtain ⟨j, k, op, hj, rfl, rfl, hk, rfl, hwr, hF⟩:=hrel;subst wr;cases gk with
  | zero =>
   have hjn : ¬ ((j : Int) < L):=by omega
   go_wp2_with fail;go_ret2;have:=hF.out;rw [<- this];exact ⟨rfl, rfl⟩
  | succ g =>
   have hjn : (j : Int) < L:=by omega
   have hkL : (k : Int) < L:=by omega
   have ch:=HH.out.cell k;rw [intCells_get _ _ (by have:=HL.out; omega)] at ch;have hmod : ((k + 1) % L : Nat) < L:=Nat.mod_lt _ (by omega);have hFe:=hF.out;rw [findM, <- HL.out] at hFe;obtain ⟨v, hv⟩ : ∃ v, v = hash.getD k 0:=⟨_, rfl⟩;rw [<- hv] at ch hFe;have hrng:=HV.out.rng k (by have:=HLN.out; omega);rw [<- hv] at hrng;have HFE:=Lib.hid hFe;have HR:=Lib.hid hrng;clear hFe hrng hv hF;by_cases h0 : v = 0
   ·subst h0;have hfe:=HFE.out;rw [if_pos rfl] at hfe;by_cases ho : op = -1
    ·subst ho;rw [if_pos rfl] at hfe;have HE:=Lib.hid hfe;clear hfe HFE HR;go_wp2_with fail;rw [Exit.noGoto_ret];go_ret2;rw [<- HE.out];exact ⟨rfl, rfl⟩
    ·have hob : (op == -1) = false:=by simpa using ho
     rw [if_neg ho] at hfe;have HE:=Lib.hid hfe;clear hfe HFE HR;go_wp2_with fail;rw [Exit.noGoto_ret];go_ret2;rw [<- HE.out];exact ⟨rfl, rfl⟩
   ·have h0b : (v == 0) = false:=by simpa using h0
    have hfe:=HFE.out;rw [if_neg h0] at hfe;by_cases hg : v = -1
    ·subst hg;rw [if_pos rfl] at hfe;by_cases ho : op = -1
     ·subst ho;rw [if_pos rfl] at hfe;have HE:=Lib.hid hfe;clear hfe HFE HR;go_wp2_with fail;go_roundg g
      case measure => omega
      case rel => exact ⟨j + 1, (k + 1) % L, _, by omega, by go_num, by go_num, hmod, rfl, rfl, HE.out⟩
     ·have hob : (op == -1) = false:=by simpa using ho
      rw [if_neg ho] at hfe;have HE:=Lib.hid hfe;clear hfe HFE HR;go_wp2_with fail;go_roundg g
      case measure => omega
      case rel => exact ⟨j + 1, (k + 1) % L, _, by omega, by go_num, by go_num, hmod, rfl, rfl, HE.out⟩
    ·have hgb : (v == -1) = false:=by simpa using hg
     rw [if_neg hg] at hfe;obtain ⟨s, rfl, hs1, hs2, _⟩ : ∃ s : Nat, v = s /\ 1 <= s /\ s <= N /\ ids.getD s 0 ≠ 0:=by
      rcases HR.out with h | h | h
      ·exact absurd h h0
      ·exact absurd h hg
      ·exact h
     rw [Int.toNat_natCast] at hfe;have ci:=HI.out.cell s;rw [intCells_get _ _ (by have:=HM.out; have:=HM2.out; omega)] at ci;have hsM : (s : Int) < M:=by have:=HM2.out; omega
     obtain ⟨x, hx⟩ : ∃ x, x = ids.getD s 0:=⟨_, rfl⟩;rw [<- hx] at ci hfe;by_cases he : x = id
     ·subst he;rw [if_pos rfl] at hfe;have HE:=Lib.hid hfe;clear hfe HFE HR hx;go_wp2_with fail;rw [Exit.noGoto_ret];go_ret2;rw [<- HE.out];exact ⟨rfl, rfl⟩
     ·have heb : (x == id) = false:=by simpa using he
      rw [if_neg he] at hfe;have HE:=Lib.hid hfe;clear hfe HFE HR hx;go_wp2_with fail;go_roundg g
      case measure => omega
      case rel => exact ⟨j + 1, (k + 1) % L, _, by omega, by go_num, by go_num, hmod, rfl, rfl, HE.out⟩
theorem slot_yes (P : NmP) (N : Nat) (ids hash : List Int) (id : Int) (s : Nat) (w : World) (h : NmAt w P ids hash) (I : NmInv N ids hash) (hN : N <= 16383) (hid : 1 <= id /\ id < 1073741824) (h1 : 1 <= s) (h2 : s <= N) (hs : ids.getD s 0 = id) :
  Calls Tryz.prog 169 #[.pointer (some ⟨P.t, 0, none⟩), .int .i64 id] w fun e w' => e = .returned (.tuple #[.int .i64 s, .bool true]) /\ w = w':=by
 obtain ⟨k, hk, hf, hhk⟩:=find_bound I h1 h2 hs (by omega);have hfi:=find_any P N ids hash id w h I hN (by omega);rw [hf] at hfi;simp only at hfi;obtain ⟨n, hn⟩:=h.head;have c1:=hn.cell 1;simp only [qTa, qTb, qTc] at c1;have ch:=h.hash.cell k;rw [intCells_get _ _ (by rw [I.lenH]; omega), hhk] at ch;have hlH:=I.lenH;obtain ⟨L, hL⟩ : ∃ L, L = hash.length:=⟨_, rfl⟩;rw [<- hL] at c1 hlH;have hkL : (k : Int) < L:=by omega
 have HF:=Lib.hid hfi;clear hfi hL hlH hn h I hf hhk hs;go_enter Tryz.func169, Tryz.ntmps169;go_wp2_with fail;refine HF.out.mono ?_;rintro e w' ⟨rfl, rfl⟩;go_wp2_with fail;go_ret2;exact ⟨rfl, rfl⟩
theorem slot_no (P : NmP) (N : Nat) (ids hash : List Int) (id : Int) (w : World) (h : NmAt w P ids hash) (I : NmInv N ids hash) (hN : N <= 16383) (hid : id < 1073741824) (hno : ∀ s, 1 <= s -> s <= N -> ids.getD s 0 ≠ id) :
  Calls Tryz.prog 169 #[.pointer (some ⟨P.t, 0, none⟩), .int .i64 id] w fun e w' => e = .returned (.tuple #[.int .i64 0, .bool false]) /\ w = w':=by
 by_cases h1 : id < 1
 ·clear h I;go_enter Tryz.func169, Tryz.ntmps169;go_wp2_with fail;go_ret2;exact ⟨rfl, rfl⟩
 ·obtain ⟨op, hf, _⟩:=find_none I hno;have hfi:=find_any P N ids hash id w h I hN (by omega);rw [hf] at hfi;have HF:=Lib.hid hfi;clear hfi h I hf hno;go_enter Tryz.func169, Tryz.ntmps169;go_wp2_with fail;refine HF.out.mono ?_;rintro e w' ⟨rfl, rfl⟩;go_wp2_with fail;go_ret2;exact ⟨rfl, rfl⟩
theorem id_any (P : NmP) (N : Nat) (ids hash : List Int) (s : Nat) (w : World) (h : NmAt w P ids hash) (I : NmInv N ids hash) (h1 : 1 <= s) (h2 : s <= N) :
  Calls Tryz.prog 31 #[.pointer (some ⟨P.t, 0, none⟩), .int .i64 s] w fun e w' => e = .returned (.tuple #[.int .i64 (ids.getD s 0), .bool (decide (ids.getD s 0 ≠ 0))]) /\ w = w':=by
 obtain ⟨n, hn⟩:=h.head;have c0:=hn.cell 0;simp only [qTa, qTb] at c0;have ci:=h.ids.cell s;have hlI:=I.lenI;rw [intCells_get _ _ (by omega)] at ci;obtain ⟨M, hM⟩ : ∃ M, M = ids.length:=⟨_, rfl⟩;rw [<- hM] at c0 hlI;have hsM : (s : Int) < M:=by omega
 have hs1 : (1 : Int) <= s:=by omega
 obtain ⟨x, hx⟩ : ∃ x, x = ids.getD s 0:=⟨_, rfl⟩;rw [<- hx] at ci ⊢;clear hx hM hlI hn h I;by_cases h0 : x = 0
 ·subst h0;go_enter Tryz.func31, Tryz.ntmps31;go_wp2_with fail;go_ret2;exact ⟨rfl, rfl⟩
 ·have h0b : (x == 0) = false:=by simpa using h0
  rw [decide_eq_true h0];go_enter Tryz.func31, Tryz.ntmps31;go_wp2_with fail;go_ret2;exact ⟨rfl, rfl⟩
theorem index_any (w : World) (A : Option Addr) (xs : List Int) (cap : Nat) (v : Int) (hA : Ints w A xs) (hl : xs.length <= 9223372036854775807) :
  Calls Tryz.prog 210 #[.slice A xs.length cap, .int .i64 v] w fun e w' => e = .returned (.int .i64 (match xs.findIdx? (· == v) with | some i => (i : Int) | none => -1)) /\ w = w':=by
 obtain ⟨n, hn⟩ : ∃ n, n = xs.length:=⟨_, rfl⟩;obtain ⟨R, hR⟩ : ∃ R : Int, R = (match xs.findIdx? (· == v) with | some i => (i : Int) | none => -1):=⟨_, rfl⟩
 rw [<- hR, <- hn];rw [<- hn] at hl;have HN:=Lib.hid hn;have HR:=Lib.hid hR;have HA:=Lib.hid hA;clear hn hR hA;go_enter Tryz.func210, Tryz.ntmps210;go_wp2_with fail;go_loopg [5, 8] n (fun g s5 s8 wr => ∃ j : Nat, j + g = n /\ s8 = .int .i64 j /\ wr = w /\ Aside (∀ i, i < j -> ∀ x, xs[i]? = some x -> x ≠ v))
 case atStart => exact ⟨0, by omega, rfl, rfl, fun i hi => absurd hi (by omega)⟩
 case round =>
  obtain ⟨j, hj, rfl, hwr, hall⟩:=hrel;subst wr;cases gk with
  | zero =>
   have hjn : ¬ ((j : Int) < n):=by omega
   have hr : R = -1:=by
    rw [HR.out];have : xs.findIdx? (· == v) = none:=by
     rw [List.findIdx?_eq_none_iff];intro x hx;obtain ⟨i, hi⟩:=List.getElem?_of_mem hx;have hil:=(List.getElem?_eq_some_iff.1 hi).1;have:=hall.out i (by have:=HN.out; omega) x hi
     simpa using this
    rw [this]
   have HRR:=Lib.hid hr;clear hr hall;go_wp2_with fail;go_ret;rw [HRR.out];exact ⟨rfl, rfl⟩
  | succ g =>
   have hjn : (j : Int) < n:=by omega
   obtain ⟨x, hx⟩ : ∃ x, xs[j]? = some x:=⟨_, getElem?_eq_getElem (by have:=HN.out; omega)⟩;obtain ⟨_, b, off, rfl, _, c0⟩:=HA.out j x hx;have HX:=Lib.hid hx;clear hx;by_cases he : v = x
   ·have hb : (v == x) = true:=by simpa using he
    have hres : R = (j : Int):=by
     rw [HR.out];have : xs.findIdx? (· == v) = some j:=by
      rw [List.findIdx?_eq_some_iff_getElem];have hjl:=(List.getElem?_eq_some_iff.1 HX.out).1;refine ⟨hjl, ?_, ?_⟩
      ·have : xs[j] = x:=by have:=HX.out; rw [getElem?_eq_getElem hjl] at this; exact Option.some.inj this
       simp [this, he]
      ·intro i hi;have:=hall.out i hi _ (getElem?_eq_getElem (by omega))
       simpa using this
     rw [this]
    have HRR:=Lib.hid hres;clear hres hall he;go_wp2_with fail;go_ret;rw [HRR.out];exact ⟨rfl, rfl⟩
   ·have hb : (v == x) = false:=by simpa using he
    have hall2 : Aside (∀ i, i < j + 1 -> ∀ y, xs[i]? = some y -> y ≠ v):=by
     intro i hi y hy;by_cases e : i = j
     ·subst e;have:=HX.out;rw [hy] at this;injection this with this;intro e2; exact he (by omega)
     ·exact hall.out i (by omega) y hy
    clear hall he;go_wp2_with fail;go_roundg g
    case measure => omega
    case rel => exact ⟨j + 1, by omega, by go_num, rfl, hall2⟩
theorem make_ints (n : Nat) (hn : n <= 1000000) (W : World) : (Instr.makeSlice 26 (.int .i64 (n : Int)) (.int .i64 (n : Int))).run Tryz.prog W = .ok (.slice (some ⟨W.heap.size, 0, none⟩) n n) (W.alloc (.cells (intCells (List.replicate n 0)) 3)):=by
 obtain ⟨i0, hi, hz0, hz1, hz2⟩:=info_parts Tryz.info3;have h:=run_make (P:=Tryz.prog) W 26 3 i0 (.int .i64 0) Tryz.underlying26 hi hz0 .i64 .i64 n n (by omega) (by omega) (by rw [hz2]; omega) (by omega);rw [h, hz1];simp only [Int.toNat_natCast];have e : madeCells (Value.int .i64 0).cells (n * 1) = intCells (List.replicate n 0):=by
  show madeCells #[Value.int .i64 0] (n * 1) = _
  rw [made_one, intCells, List.map_replicate]
 rw [e]
theorem alloc3 (w : World) (t1 t2 t3 : TypeId) (c1 c2 c3 : Array Value) :
  Blk (((w.alloc (.cells c1 t1)).alloc (.cells c2 t2)).alloc (.cells c3 t3)).drew w.heap.size t1 c1 /\ Blk (((w.alloc (.cells c1 t1)).alloc (.cells c2 t2)).alloc (.cells c3 t3)).drew (w.heap.size + 1) t2 c2 /\
  Blk (((w.alloc (.cells c1 t1)).alloc (.cells c2 t2)).alloc (.cells c3 t3)).drew (w.heap.size + 1 + 1) t3 c3 /\ Below w.heap.size w (((w.alloc (.cells c1 t1)).alloc (.cells c2 t2)).alloc (.cells c3 t3)).drew:=by
 have b1:=((Blk.new w t1 c1).alloc (.cells c2 t2)).alloc (.cells c3 t3);have b2:=(Blk.new2 w (.cells c1 t1) t2 c2).alloc (.cells c3 t3);have b3:=Blk.new2 (w.alloc (.cells c1 t1)) (.cells c2 t2) t3 c3;have e : (w.alloc (.cells c1 t1)).heap.size = w.heap.size + 1:=by simp
 rw [e] at b3;have hb:=((((Below.refl w.heap.size w).alloc (Nat.le_refl _) (.cells c1 t1)).alloc (by simp) (.cells c2 t2)).alloc (by simp; omega) (.cells c3 t3));exact ⟨b1, b2, b3, ⟨hb.os, hb.tape, hb.output, hb.size, hb.block⟩⟩
theorem namesNew_any (N : Nat) (hN : N <= 255) (w : World) :
  Calls Tryz.prog 17 #[.int .i64 N] w fun e w' => ∃ P : NmP, e = .returned (.tuple #[.pointer (some ⟨P.t, 0, none⟩), .int .i64 0]) /\ NmAt w' P (List.replicate (N + 1) 0) (List.replicate (2 * N + 1) 0) /\ (∀ k, P.set k -> w.heap.size <= k) /\ Below w.heap.size w w':=by
 have m1:=fun W => make_ints (N + 1) (by omega) W;have m2:=fun W => make_ints (2 * N + 1) (by omega) W;rw [Int.natCast_add] at m1;rw [Int.natCast_add, Int.natCast_mul] at m2;obtain ⟨p, hp⟩ : ∃ p, p = N + 1:=⟨_, rfl⟩;obtain ⟨q, hq⟩ : ∃ p, p = 2 * N + 1:=⟨_, rfl⟩;rw [<- hp] at m1 ⊢;rw [<- hq] at m2 ⊢;have a1 : ((N : Int) + ((1 : Nat) : Int)) = p:=by omega
 have a2 : (((2 : Nat) : Int) * (N : Int) + ((1 : Nat) : Int)) = q:=by omega
 rw [a1] at m1;rw [a2] at m2;obtain ⟨c1, hc1⟩ : ∃ c, c = intCells (List.replicate p 0):=⟨_, rfl⟩;obtain ⟨c2, hc2⟩ : ∃ c, c = intCells (List.replicate q 0):=⟨_, rfl⟩;rw [<- hc1] at m1;rw [<- hc2] at m2;have HC1:=Lib.hid hc1;have HC2:=Lib.hid hc2;have u1 : IntKind.i64.wrap ((N : Int) + 1) = (p : Int):=by rw [IntKind.wrap_i64]; omega
 have u2 : IntKind.i64.wrap (2 * (N : Int)) = 2 * (N : Int):=by rw [IntKind.wrap_i64]; omega
 have u3 : IntKind.i64.wrap (2 * (N : Int) + 1) = (q : Int):=by rw [IntKind.wrap_i64]; omega
 clear a1 a2 hc1 hc2 hp hq;go_enter Tryz.func17, Tryz.ntmps17;go_wp2_with fail;go_region
 ·go_wp2_with fail;go_ret2;obtain ⟨b1, b2, b3, hb⟩:=alloc3 w 3 3 118 c1 c2 #[.slice (some ⟨w.heap.size, 0, none⟩) p p, .slice (some ⟨w.heap.size + 1, 0, none⟩) q q, .int .i64 0];refine ⟨⟨w.heap.size + 1 + 1, w.heap.size, w.heap.size + 1⟩, rfl, ⟨⟨0, by simpa using b3⟩, by rw [HC1.out, HC2.out] at *; exact b1, by rw [HC1.out, HC2.out] at *; exact b2, ⟨by dsimp only; omega, by dsimp only; omega, by dsimp only; omega⟩⟩, ?_, hb⟩;rintro k (rfl | rfl | rfl) <;> dsimp only <;> omega
 ·go_wp2_with fail;go_ret2;obtain ⟨b1, b2, b3, hb⟩:=alloc3 w 3 3 118 c2 c1 #[.slice (some ⟨w.heap.size + 1, 0, none⟩) p p, .slice (some ⟨w.heap.size, 0, none⟩) q q, .int .i64 0];refine ⟨⟨w.heap.size + 1 + 1, w.heap.size + 1, w.heap.size⟩, rfl, ⟨⟨0, by simpa using b3⟩, by rw [HC1.out, HC2.out] at *; exact b2, by rw [HC1.out, HC2.out] at *; exact b1, ⟨by dsimp only; omega, by dsimp only; omega, by dsimp only; omega⟩⟩, ?_, hb⟩;rintro k (rfl | rfl | rfl) <;> dsimp only <;> omega
def freeM (ids : List Int) : Option Nat:=(ids.drop 1).findIdx? (· == 0)
theorem freeM_some {N : Nat} {ids : List Int} (hl : ids.length = N + 1) {i : Nat} (h : freeM ids = some i) : i + 1 <= N /\ ids.getD (i + 1) 0 = 0:=by
 unfold freeM at h;rw [List.findIdx?_eq_some_iff_getElem] at h;obtain ⟨hi, h1, _⟩:=h;rw [List.length_drop] at hi;refine ⟨by omega, ?_⟩;rw [List.getElem_drop] at h1;rw [getD_eq_getElem?_getD, getElem?_eq_getElem (by omega)];simp only [beq_iff_eq] at h1;simp only [Option.getD_some];rw [<- h1]
 congr 1;omega
theorem bind_bound (P : NmP) (N : Nat) (ids hash : List Int) (id : Int) (s : Nat) (w : World) (h : NmAt w P ids hash) (I : NmInv N ids hash) (hN : N <= 16383) (hid : 1 <= id /\ id < 1073741824) (h1 : 1 <= s) (h2 : s <= N) (hs : ids.getD s 0 = id) :
  Calls Tryz.prog 196 #[.pointer (some ⟨P.t, 0, none⟩), .int .i64 id] w fun e w' => e = .returned (.tuple #[.int .i64 s, .int .i64 0]) /\ w = w':=by
 obtain ⟨k, hk, hf, hhk⟩:=find_bound I h1 h2 hs (by omega);have hfi:=find_any P N ids hash id w h I hN (by omega);rw [hf] at hfi;simp only at hfi;obtain ⟨n, hn⟩:=h.head;have c1:=hn.cell 1;simp only [qTa, qTb, qTc] at c1;have ch:=h.hash.cell k;rw [intCells_get _ _ (by rw [I.lenH]; omega), hhk] at ch;have hlH:=I.lenH;obtain ⟨L, hL⟩ : ∃ L, L = hash.length:=⟨_, rfl⟩;rw [<- hL] at c1 hlH;have hkL : (k : Int) < L:=by omega
 have hi1 : ¬ (id < 1):=by omega
 have HF:=Lib.hid hfi;clear hfi hL hlH hn h I hf hhk hs;go_enter Tryz.func196, Tryz.ntmps196;go_wp2_with fail;refine HF.out.mono ?_;rintro e w' ⟨rfl, rfl⟩;go_wp2_with fail;go_ret2;exact ⟨rfl, rfl⟩
theorem ints_tail {w : World} {P : NmP} {ids hash : List Int} {N : Nat} (h : NmAt w P ids hash) (I : NmInv N ids hash) : Ints w (some ⟨P.i, 1, none⟩) (ids.drop 1):=by
 intro j v hv;rw [List.getElem?_drop] at hv;have hlt:=(List.getElem?_eq_some_iff.1 hv).1;have hg : ids.getD (1 + j) 0 = v:=by rw [getD_eq_getElem?_getD, hv]; rfl
 have:=I.idr (1 + j);refine ⟨by omega, P.i, 1, rfl, h.ids.lt, ?_⟩;rw [h.ids.cell, intCells_get _ _ hlt, hg]
theorem bind_full (P : NmP) (N : Nat) (ids hash : List Int) (id : Int) (w : World) (h : NmAt w P ids hash) (I : NmInv N ids hash) (hN : N <= 16383) (hid : 1 <= id /\ id < 1073741824) (hno : ∀ s, 1 <= s -> s <= N -> ids.getD s 0 ≠ id) (hfull : freeM ids = none) :
  Calls Tryz.prog 196 #[.pointer (some ⟨P.t, 0, none⟩), .int .i64 id] w fun e w' => e = .returned (.tuple #[.int .i64 0, .int .i64 3]) /\ w = w':=by
 obtain ⟨op, hf, _⟩:=find_none I hno;have hfi:=find_any P N ids hash id w h I hN (by omega);rw [hf] at hfi;simp only at hfi;obtain ⟨n, hn⟩:=h.head;have c0:=hn.cell 0;simp only [qTa, qTb] at c0;have hlI:=I.lenI;have hi1 : ¬ (id < 1):=by omega
 have hx1:=index_any w (some ⟨P.i, 1, none⟩) (ids.drop 1) N 0 (ints_tail h I) (by rw [List.length_drop]; omega);have hx0:=index_any w (some ⟨P.i, 0, none⟩) [] 0 0 (Ints.nil _ _) (by simp);have e1 : (ids.drop 1).length = N:=by rw [List.length_drop]; omega
 have hfull2 : (ids.drop 1).findIdx? (· == 0) = none:=hfull;rw [e1, hfull2] at hx1;simp only [List.length_nil, List.findIdx?_nil] at hx0;rw [hlI] at c0;have HF:=Lib.hid hfi;have HX1:=Lib.hid hx1;have HX0:=Lib.hid hx0;clear hfi hlI hn h I hf hno hx1 hx0 hfull hfull2 e1;rcases Nat.eq_zero_or_pos N with h0 | h0
 ·subst h0;go_enter Tryz.func196, Tryz.ntmps196;go_wp2_with fail;refine HF.out.mono ?_;rintro e w' ⟨rfl, rfl⟩;go_wp2_with fail;refine HX0.out.mono ?_;rintro e w' ⟨rfl, rfl⟩;go_wp2_with fail;go_ret2;exact ⟨rfl, rfl⟩
 ·have hN1 : (1 : Int) <= (N : Int) + 1:=by omega
  have hN2 : ¬ (N + 1 = 1):=by omega
  go_enter Tryz.func196, Tryz.ntmps196;go_wp2_with fail;refine HF.out.mono ?_;rintro e w' ⟨rfl, rfl⟩;go_wp2_with fail;refine HX1.out.mono ?_;rintro e w' ⟨rfl, rfl⟩;go_wp2_with fail;go_ret2;exact ⟨rfl, rfl⟩
theorem bind_new (P : NmP) (N : Nat) (ids hash : List Int) (id : Int) (i : Nat) (w : World) (h : NmAt w P ids hash) (I : NmInv N ids hash) (hN : N <= 16383) (hid : 1 <= id /\ id < 1073741824) (hno : ∀ s, 1 <= s -> s <= N -> ids.getD s 0 ≠ id) (hf : freeM ids = some i) :
  Calls Tryz.prog 196 #[.pointer (some ⟨P.t, 0, none⟩), .int .i64 id] w fun e w' => e = .returned (.tuple #[.int .i64 ((i : Int) + 1), .int .i64 0]) /\
   (∃ hash', NmAt w' P (ids.set (i + 1) id) hash' /\ NmInv N (ids.set (i + 1) id) hash') /\ Only P.set w w':=by
 obtain ⟨op, hfo, hop⟩:=find_none I hno;have hfi:=find_any P N ids hash id w h I hN (by omega);rw [hfo] at hfi;simp only at hfi;obtain ⟨hi1, hi2⟩:=freeM_some I.lenI hf;have I2:=I.bind (s:=i + 1) (by omega) hi1 hi2 hid hno hop;obtain ⟨d, hd, hope, _⟩:=hop;obtain ⟨k, hk⟩ : ∃ k, k = (startM (2 * N + 1) id + d) % (2 * N + 1):=⟨_, rfl⟩;have hkl : k < 2 * N + 1:=by rw [hk]; exact Nat.mod_lt _ (by omega)
 rw [<- hk] at hope;subst hope;rw [Int.toNat_natCast] at I2;obtain ⟨n, hn⟩:=h.head;have c0:=hn.cell 0;have c1:=hn.cell 1;have c2:=hn.cell 2;simp only [qTa, qTb, qTc] at c0 c1 c2;have hlI:=I.lenI;have hlH:=I.lenH;have hx1:=index_any w (some ⟨P.i, 1, none⟩) (ids.drop 1) N 0 (ints_tail h I) (by rw [List.length_drop]; omega);have e1 : (ids.drop 1).length = N:=by rw [List.length_drop]; omega
 have hf2 : (ids.drop 1).findIdx? (· == 0) = some i:=hf;rw [e1, hf2] at hx1;have ci:=h.ids.cell (i + 1);rw [intCells_get _ _ (by omega)] at ci;have ch:=h.hash.cell k;rw [intCells_get _ _ (by omega)] at ch;have fi:=h.ids.frozen;have fh:=h.hash.frozen;have ft:=hn.frozen;have bi:=h.ids.set_ (i + 1) (.int .i64 id);rw [intCells_set] at bi;have bh:=h.hash.set_ k (.int .i64 ((i : Int) + 1));rw [intCells_set] at bh;obtain ⟨a1, a2, a3⟩:=h.apart;have hbi:=h.ids.far (p:=⟨P.h, k, none⟩) a3 (.int .i64 ((i : Int) + 1));have hbh:=h.hash.far (p:=⟨P.i, i + 1, none⟩) (Ne.symm a3) (.int .i64 id);have gi : ∀ (a b : World), Only (fun g => g = P.i \/ g = P.h) a b -> True:=fun _ _ _ => trivial;rw [hlI] at c0;rw [hlH] at c1;have hN1 : (1 : Int) <= (N : Int) + 1:=by omega
 have hN2 : ¬ (N + 1 = 1):=by omega
 have hi3 : ¬ (id < 1):=by omega
 have hz1 : ¬ ((i : Int) + 1 = 0):=by omega
 have hz2 : ((i : Int) + 1 == 0) = false:=by rw [beq_eq_false_iff_ne]; exact hz1
 have x0 : (0 : Int) <= (i : Int) + 1:=by omega
 have x1 : (i : Int) + 1 < (N : Int) + 1:=by omega
 have y0 : (0 : Int) <= (k : Int):=by omega
 have y1 : (k : Int) < 2 * (N : Int) + 1:=by omega
 have HF:=Lib.hid hfi;have HX1:=Lib.hid hx1;have HI:=Lib.hid I2;have HN:=Lib.hid hn;have HLI:=Lib.hid hlI;have HLH:=Lib.hid hlH;have HBI:=Lib.hid h.ids;have HBH:=Lib.hid h.hash;clear hfi hx1 I2 hn hlI hlH h I hno hf hf2 e1 hfo bi bh hbi hbh gi hk;go_enter Tryz.func196, Tryz.ntmps196;go_wp2_with fail;refine HF.out.mono ?_;rintro e w' ⟨rfl, rfl⟩;go_wp2_with fail;refine HX1.out.mono ?_;rintro e w' ⟨rfl, rfl⟩;go_wp2_with fail;go_region
 have hO2 : Only P.set w ((w.setCell ⟨P.i, i + 1, none⟩ (.int .i64 id)).setCell ⟨P.h, k, none⟩ (.int .i64 ((i : Int) + 1))).drew :=
  ((((Only.refl P.set w).setCell (p:=⟨P.i, i + 1, none⟩) (.inl (.inr (.inl rfl))) (.int .i64 id)).setCell (p:=⟨P.h, k, none⟩) (.inl (.inr (.inr rfl))) (.int .i64 ((i : Int) + 1)))).drewN 1
 have t2 : Blk ((w.setCell ⟨P.i, i + 1, none⟩ (.int .i64 id)).setCell ⟨P.h, k, none⟩ (.int .i64 ((i : Int) + 1))).drew P.t 118 #[.slice (some ⟨P.i, 0, none⟩) ids.length ids.length, .slice (some ⟨P.h, 0, none⟩) hash.length hash.length, .int .i64 n] :=
  (HN.out.far (p:=⟨P.i, i + 1, none⟩) a1 (.int .i64 id)).far (p:=⟨P.h, k, none⟩) a2 (.int .i64 ((i : Int) + 1))
 have i2 : Blk ((w.setCell ⟨P.i, i + 1, none⟩ (.int .i64 id)).setCell ⟨P.h, k, none⟩ (.int .i64 ((i : Int) + 1))).drew P.i 3 (intCells (ids.set (i + 1) id)):=by have:=(HBI.out.set_ (i + 1) (.int .i64 id)).far (p:=⟨P.h, k, none⟩) a3 (.int .i64 ((i : Int) + 1));rw [intCells_set] at this;exact this
 have h2 : Blk ((w.setCell ⟨P.i, i + 1, none⟩ (.int .i64 id)).setCell ⟨P.h, k, none⟩ (.int .i64 ((i : Int) + 1))).drew P.h 3 (intCells (hash.set k ((i : Int) + 1))):=by have:=(HBH.out.far (p:=⟨P.i, i + 1, none⟩) (Ne.symm a3) (.int .i64 id)).set_ k (.int .i64 ((i : Int) + 1));rw [intCells_set] at this;exact this
 generalize ((w.setCell ⟨P.i, i + 1, none⟩ (.int .i64 id)).setCell ⟨P.h, k, none⟩ (.int .i64 ((i : Int) + 1))).drew = W2 at hO2 t2 i2 h2 ⊢;clear c0 c1 c2 ci ch fi fh ft HF HX1 HN HBI HBH;have c2:=t2.cell 2;simp only [qTa, qTb, qTc] at c2;have f2:=t2.frozen;go_wp2_with fail;go_ret2;have t3:=t2.set_ 2 (.int .i64 (wrap64 (n + 1)));simp only [List.setIfInBounds_toArray, List.set_cons_succ, List.set_cons_zero] at t3;refine ⟨rfl, ⟨hash.set k ((i : Int) + 1), ⟨⟨wrap64 (n + 1), ?_⟩, i2.far (p:=⟨P.t, 2, none⟩) (Ne.symm a1) _, h2.far (p:=⟨P.t, 2, none⟩) (Ne.symm a2) _, ⟨a1, a2, a3⟩⟩, ?_⟩, hO2.setCell (.inl (.inl rfl)) _⟩
 ·rw [length_set, length_set]; exact t3
 ·have:=HI.out;rw [Int.natCast_add] at this;exact this
theorem contains_nil (w : World) (A : Option Addr) (cap : Nat) (v : Int) : Calls Tryz.prog 214 #[.slice A 0 cap, .int .i64 v] w fun e w' => e = .returned (.bool false) /\ w = w':=by have hx:=index_any w A [] cap v (Ints.nil _ _) (by simp);simp only [List.length_nil, List.findIdx?_nil] at hx;have HX:=Lib.hid hx;clear hx;go_enter Tryz.func214, Tryz.ntmps214;go_wp2_with fail;refine HX.out.mono ?_;rintro e w' ⟨rfl, rfl⟩;go_wp2_with fail;go_ret;exact ⟨rfl, rfl⟩
theorem free_one (P : NmP) (N : Nat) (ids hash : List Int) (s g : Nat) (w : World) (h : NmAt w P ids hash) (I : NmInv N ids hash) (hN : N <= 16383) (h1 : 1 <= s) (h2 : s <= N) (hs : ids.getD s 0 ≠ 0) (hg : Blk w g 3 #[.int .i64 s]) :
  Calls Tryz.prog 200 #[.pointer (some ⟨P.t, 0, none⟩), .slice (some ⟨g, 0, none⟩) 1 1] w fun e w' => e = .returned (.int .i64 0) /\ (∃ hash', NmAt w' P (ids.set s 0) hash' /\ NmInv N (ids.set s 0) hash') /\ Only P.set w w':=by
 have hidr:=I.idr s;obtain ⟨k, hk, hf, hhk⟩:=find_bound I h1 h2 rfl hs;have hfi:=find_any P N ids hash (ids.getD s 0) w h I hN (by omega);rw [hf] at hfi;simp only at hfi;have hid:=id_any P N ids hash s w h I h1 h2;rw [decide_eq_true hs] at hid;have hcn:=contains_nil w (some ⟨g, 0, none⟩) 1 s;have I2:=I.free h1 h2 hk hhk;obtain ⟨n, hn⟩:=h.head;have c0:=hn.cell 0;have c1:=hn.cell 1;have c2:=hn.cell 2;simp only [qTa, qTb, qTc] at c0 c1 c2;have hlI:=I.lenI;have hlH:=I.lenH;have ci:=h.ids.cell s;rw [intCells_get _ _ (by omega)] at ci;have ch:=h.hash.cell k;rw [intCells_get _ _ (by omega)] at ch;have fi:=h.ids.frozen;have fh:=h.hash.frozen;have ft:=hn.frozen;have g0:=hg.cell 0;simp only [qTa, qTb] at g0;obtain ⟨a1, a2, a3⟩:=h.apart;rw [hlI] at c0;rw [hlH] at c1;obtain ⟨x, hx⟩ : ∃ x, x = ids.getD s 0:=⟨_, rfl⟩;rw [<- hx] at ci hfi hid;have x0 : (0 : Int) <= (s : Int):=by omega
 have x1 : (s : Int) < (N : Int) + 1:=by omega
 have y0 : (0 : Int) <= (k : Int):=by omega
 have y1 : (k : Int) < 2 * (N : Int) + 1:=by omega
 have HF:=Lib.hid hfi;have HID:=Lib.hid hid;have HC:=Lib.hid hcn;have HI:=Lib.hid I2;have HN:=Lib.hid hn;have HBI:=Lib.hid h.ids;have HBH:=Lib.hid h.hash;clear hfi hid hcn I2 hn hlI hlH h I hf hhk hs hx;go_enter Tryz.func200, Tryz.ntmps200;go_wp2_with fail;go_loopg [5, 6, 7, 8, 17] 1 (fun q s5 s6 s7 s8 s17 wr => ∃ j : Nat, j + q = 1 /\ s17 = .int .i64 j /\ wr = w)
 case atStart => exact ⟨0, rfl, rfl, rfl⟩
 case round =>
  obtain ⟨j, hj, rfl, hwr⟩:=hrel;subst wr;cases gk with
  | succ q =>
   obtain rfl : j = 0:=by omega
   go_wp2_with fail;refine HID.out.mono ?_;rintro e w' ⟨rfl, rfl⟩;go_wp2_with fail;refine HC.out.mono ?_;rintro e w' ⟨rfl, rfl⟩;go_wp2_with fail;go_roundg q
   case measure => omega
   case rel => exact ⟨1, by omega, by go_num, rfl⟩
  | zero =>
   obtain rfl : j = 1:=by omega
   clear HC HID hj;go_wp2_with fail;go_loopg [10, 11, 12, 40] 1 (fun q t10 t11 t12 t40 wr => ∃ j : Nat, j + q = 1 /\ t40 = .int .i64 j /\ (j = 0 -> wr = w) /\ (j = 1 -> (∃ hash', NmAt wr P (ids.set s 0) hash' /\ NmInv N (ids.set s 0) hash') /\ Only P.set w wr))
   case atStart => exact ⟨0, rfl, rfl, fun _ => rfl, fun h => by omega⟩
   case round =>
    obtain ⟨j, hj, rfl, hw0, hw1⟩:=hrel;cases gk with
    | zero =>
     obtain rfl : j = 1:=by omega
     clear hw0;have hw:=Lib.hid (hw1 rfl);clear hw1;go_wp2_with fail;go_ret;exact ⟨rfl, hw.out.1, hw.out.2⟩
    | succ q =>
     obtain rfl : j = 0:=by omega
     have hwr:=hw0 rfl;subst wr;clear hw0 hw1;go_wp2_with fail;refine HF.out.mono ?_;rintro e w' ⟨rfl, rfl⟩;go_wp2_with fail;go_region
     have hO2 : Only P.set w ((w.setCell ⟨P.h, k, none⟩ (.int .i64 (-1))).setCell ⟨P.i, s, none⟩ (.int .i64 0)).drew :=
      ((((Only.refl P.set w).setCell (p:=⟨P.h, k, none⟩) (.inl (.inr (.inr rfl))) (.int .i64 (-1))).setCell (p:=⟨P.i, s, none⟩) (.inl (.inr (.inl rfl))) (.int .i64 0))).drewN 1
     have t2 : Blk ((w.setCell ⟨P.h, k, none⟩ (.int .i64 (-1))).setCell ⟨P.i, s, none⟩ (.int .i64 0)).drew P.t 118 #[.slice (some ⟨P.i, 0, none⟩) ids.length ids.length, .slice (some ⟨P.h, 0, none⟩) hash.length hash.length, .int .i64 n] :=
      (HN.out.far (p:=⟨P.h, k, none⟩) a2 (.int .i64 (-1))).far (p:=⟨P.i, s, none⟩) a1 (.int .i64 0)
     have h2' : Blk ((w.setCell ⟨P.h, k, none⟩ (.int .i64 (-1))).setCell ⟨P.i, s, none⟩ (.int .i64 0)).drew P.h 3 (intCells (hash.set k (-1))):=by have:=(HBH.out.set_ k (.int .i64 (-1))).far (p:=⟨P.i, s, none⟩) (Ne.symm a3) (.int .i64 0);rw [intCells_set] at this;exact this
     have i2 : Blk ((w.setCell ⟨P.h, k, none⟩ (.int .i64 (-1))).setCell ⟨P.i, s, none⟩ (.int .i64 0)).drew P.i 3 (intCells (ids.set s 0)):=by have:=(HBI.out.far (p:=⟨P.h, k, none⟩) a3 (.int .i64 (-1))).set_ s (.int .i64 0);rw [intCells_set] at this;exact this
     generalize ((w.setCell ⟨P.h, k, none⟩ (.int .i64 (-1))).setCell ⟨P.i, s, none⟩ (.int .i64 0)).drew = W2 at hO2 t2 i2 h2' ⊢;clear c0 c1 c2 ci ch fi fh ft HF HN HBI HBH;have c2:=t2.cell 2;simp only [qTa, qTb, qTc] at c2;have f2:=t2.frozen;have t3:=t2.set_ 2 (.int .i64 (wrap64 (n - 1)));simp only [List.setIfInBounds_toArray, List.set_cons_succ, List.set_cons_zero] at t3;have hfin : (∃ hash', NmAt (W2.setCell ⟨P.t, 2, none⟩ (.int .i64 (wrap64 (n - 1)))) P (ids.set s 0) hash' /\ NmInv N (ids.set s 0) hash') /\ Only P.set w (W2.setCell ⟨P.t, 2, none⟩ (.int .i64 (wrap64 (n - 1)))):=by refine ⟨⟨hash.set k (-1), ⟨⟨wrap64 (n - 1), ?_⟩, i2.far (p:=⟨P.t, 2, none⟩) (Ne.symm a1) _, h2'.far (p:=⟨P.t, 2, none⟩) (Ne.symm a2) _, ⟨a1, a2, a3⟩⟩, HI.out⟩, hO2.setCell (.inl (.inl rfl)) _⟩;rw [length_set, length_set]; exact t3
     clear t3 i2 h2' hO2;go_wp2_with fail;go_roundg q
     case measure => omega
     case rel => exact ⟨1, by omega, by go_num, fun h => by omega, fun _ => hfin⟩
end Go.Proofs.YtgaemfghpibeeaaGreatDoor
namespace Go.Proofs.YtgaemfghpibeeaaGreatDoor
open Go.RowKit Go.Maps
theorem make_ok (Q : SecP) (N : Nat) (V : List Ob) (o : Ob) (A : Option Addr) (ca : Nat) (B : Option Addr) (cb : Nat) (w : World) (h : SecAt w Q N V) (hO : ObR w o A ca B cb) (hc : checkM o = true) (hfit : rowsLen (rowsV V) + secs (encM o).length <= N) (hsm : V.length < 2000) :
  Calls Tryz.prog 167 #[.pointer (some ⟨Q.q, 0, none⟩), .agg (obV o A ca B cb)] w fun e w' => e = .returned (.tuple #[.int .i64 ((V.length : Int) + 1), .int .i64 0]) /\ SecAt w' Q N (V ++ [o]) /\ Only Q.set w w':=by
 have hb:=(Below.refl w.heap.size w).alloc (Nat.le_refl _) (.cells (obV o A ca B cb) 29);have hS0:=h.below hb;have hen:=encode_ok o A ca B cb _ (hO.alloc (.cells (obV o A ca B cb) 29)) hc;have hes:=encM_small hc;have hput:=fun (W : World) (hS : SpaceAt W Q.P N (rowsV V)) ab aoff cap hA hab hcap => extPut_any Q.P N (rowsV V) ab aoff (encM o) cap W hS (by omega) hfit hA hab hcap;have hev:=encM_vals hO.byts.vals;have hmake:=fun (W w' : World) (hS : SecAt W Q N V) a1 a2 (D : DataW Value) a3 a4 a5 => SecAt.make (w:=W) (w':=w') (D:=D) hS hc hsm a1 a2 a3 a4 a5;have hlt:=h.lt;have hkey : keyOf Tryz.prog 3 (.int .i64 ((V.length : Int) + 1)) = some (idL (V.length + 1)):=by rw [keyI (by omega)];unfold idL;rw [Int.natCast_add]; rfl
 have hstore:=fun (W : World) (D : DataW Value) (hM : MapAt W 3 Q.t D) (hn : Maps.size D < 1000000) => hM.store law3 Tryz.underlying110 hn hkey (extV (rowsLen (rowsV V) : Nat) (secs (encM o).length : Nat) ((encM o).length : Nat));unfold obV at *;unfold extV at hput hmake hstore;obtain ⟨f, hf⟩ : ∃ f, f = rowsLen (rowsV V):=⟨_, rfl⟩;obtain ⟨n, hn⟩ : ∃ f, f = secs (encM o).length:=⟨_, rfl⟩;obtain ⟨p, hp⟩ : ∃ f, f = (encM o).length:=⟨_, rfl⟩;rw [<- hp] at hes;rw [<- hf, <- hn, <- hp] at hput hmake hstore;have HE:=hid hen;have HP:=hid hput;have HV:=hid hev;have HL:=hid hp;have HM:=hid hmake;have HS:=hid hstore;have HLT:=hid hlt;clear hen hput hev hp hf hn hmake hstore hlt hkey h hO hc hfit;go_enter Tryz.func167, Tryz.ntmps167;go_wp2_with fail;refine HE.out.mono ?_;rintro e w1 ⟨v, rfl, hown, hb1⟩;have hS1:=hS0.below hb1;obtain ⟨A1, c1, e1, l1, l2, y1, _⟩:=hown.reads2 HV.out;rw [<- HL.out] at e1 l1;subst e1;obtain ⟨ab, rfl, hab⟩ : ∃ ab, A1 = some ⟨ab, 0, none⟩ /\ w.heap.size <= ab:=by
  rcases hown.2 with ⟨e, _⟩ | ⟨g, cap', cur, e, hg, _⟩
  ·injection e with e1 e2 e3;exact absurd e2 (by omega)
  ·injection e with e1 e2 e3;refine ⟨g, e1, ?_⟩;simp at hg;omega
 have hb2:=hb.trans (hb1.mono hb.size);have q0:=hS1.head.cell 0;have q1:=hS1.head.cell 1;have q2:=hS1.head.cell 2;simp only [qTa, qTb, qTc] at q0 q1 q2;have hmx : ¬ ((V.length : Int) = 1048576):=by omega
 have hmb : ((V.length : Int) == 1048576) = false:=by rw [beq_eq_false_iff_ne]; exact hmx
 have hp:=hid (HP.out w1 hS1.space ab 0 c1 y1 (fun e => by have:=HLT.out ab (.inr (.inr e)); omega) ⟨by have:=HL.out; omega, l2⟩);have hOw1:=only_of hb2 Q.set;have HS1:=hid hS1;have hz1:=hb2.size;clear hb hb1 hS0 hown y1 hb2 hS1;go_wp2_with fail;refine hp.out.mono ?_;rintro e w2 ⟨rfl, hSp2, hO2⟩;obtain ⟨hqt, hqP, htP⟩:=HS1.out.apart;have hh2:=HS1.out.head.only hO2 hqP;obtain ⟨D, hM, hsz, hat⟩:=HS1.out.table;have hM2:=hM.keep hO2 htP;have hOw2:=hOw1.trans (hO2.mono (T:=Q.set) (fun g h => .inr (.inr h)));have hz2:=hO2.size;have f2:=hh2.frozen;have g0:=hh2.cell 0;have g1:=hh2.cell 1;have g2:=hh2.cell 2;simp only [qTa, qTb, qTc] at g0 g1 g2;have hlq:=hh2.lt;have hlt2:=hM2.lt;have hall2 : ∀ k, Q.set k -> k < w2.heap.size:=fun k hk => by have:=HLT.out k hk; omega
 have HAT:=hid hat;have HM0:=hid hM;have HM2:=hid hM2;have HSp:=hid hSp2;have HH2:=hid hh2;clear hat hM hM2 hSp2 hh2 hp q0 q1 q2;go_upto_region 12 with (fail);have hO3 : Only (fun g => g = Q.q) w2 ((w2.setCell ⟨Q.q, 2, none⟩ (.int .i64 ((V.length : Int) + 1))).alloc (.cells #[.int .i64 f, .int .i64 n, .int .i64 p] 143)):=((Only.refl (fun g => g = Q.q) w2).setCell (p:=⟨Q.q, 2, none⟩) (.inl rfl) _).alloc _;have hh3:=(HH2.out.set_ 2 (.int .i64 ((V.length : Int) + 1))).alloc (.cells #[.int .i64 f, .int .i64 n, .int .i64 p] 143);simp only [List.setIfInBounds_toArray, List.set_cons_succ, List.set_cons_zero] at hh3;have x3 : Blk ((w2.setCell ⟨Q.q, 2, none⟩ (.int .i64 ((V.length : Int) + 1))).alloc (.cells #[.int .i64 f, .int .i64 n, .int .i64 p] 143)) w2.heap.size 143 #[.int .i64 f, .int .i64 n, .int .i64 p]:=by
  have:=Blk.new (w2.setCell ⟨Q.q, 2, none⟩ (.int .i64 ((V.length : Int) + 1))) 143 #[.int .i64 f, .int .i64 n, .int .i64 p];have e : (w2.setCell ⟨Q.q, 2, none⟩ (.int .i64 ((V.length : Int) + 1))).heap.size = w2.heap.size:=by simp
  rwa [e] at this
 generalize (w2.setCell ⟨Q.q, 2, none⟩ (.int .i64 ((V.length : Int) + 1))).alloc (.cells #[.int .i64 f, .int .i64 n, .int .i64 p] 143) = W3 at hO3 hh3 x3 ⊢;have hM3:=HM2.out.keep hO3 (fun e => hqt e.symm);have hSp3:=HSp.out.only hO3 (fun k hk e => hqP (by rw [<- e]; exact hk));have k1:=hh3.cell 1;have k2:=hh3.cell 2;have y0:=x3.cell 0;have y1:=x3.cell 1;have y2:=x3.cell 2;simp only [qTa, qTb, qTc] at k1 k2 y0 y1 y2;obtain ⟨w4, hrun, hM4, hO4⟩:=HS.out W3.drew D (hM3.keep (only_drew (fun _ => False) W3) (fun h => h)) (by omega);have hO4' : Only (fun g => g = Q.t) W3 w4:=(only_drew _ _).trans hO4;have hh4:=hh3.only hO4' hqt;have hSp4:=hSp3.only hO4' (fun k hk e => htP (by rw [<- e]; exact hk));have hfin:=HM.out w1 w4 HS1.out hh4 hSp4 D HM0.out hsz HAT.out hM4;have hOw4:=(hOw2.trans (hO3.mono (T:=Q.set) (fun g e => .inl e))).trans (hO4'.mono (T:=Q.set) (fun g e => .inr (.inl e)));have r2:=hh4.cell 2;simp only [qTa, qTb, qTc] at r2;clear hM3 hSp3 hh4 hSp4 g0 g1 g2 f2 hM4 hO4 hO4' hO3;go_region
 go_wp2_with fail;go_ret2;exact ⟨rfl, hfin, hOw4⟩
end Go.Proofs.YtgaemfghpibeeaaGreatDoor
