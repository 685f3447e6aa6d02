/-
  An object of a paged memory goes back, leaves its slot, is bound. Conditions: each theorem names its own.
-/
import Derived.Test.YtgaemfghpibeeaaGreatDoorPk08
import Derived.ScopeJumps
set_option maxRecDepth 100000
set_option maxHeartbeats 6000000
open Go.Lib (hid)
open List (getElem?_eq_getElem mem_of_getElem? getElem?_append_left getElem?_append_right getD_eq_getElem?_getD eq_nil_of_length_eq_zero getElem?_eq_none_iff length_replicate take_of_length_le length_set length_append)
namespace Go.Proofs.YtgaemfghpibeeaaGreatDoor
open Go.RowKit
def backS (S : St) (s i : Nat) (x : Slt) (r : Res) (v : Ob) : St:={ S with D:=S.D.set i v, sl:=S.sl.set s { x with res:=some { r with dirty:=false } } }
def BackPost (p : LmP) (N NW NS : Nat) (S : St) (s i : Nat) (x : Slt) (r : Res) (v : Ob) (w : World) (e : Ending) (w' : World) : Prop :=
 e = .returned (.tuple #[]) /\ LmMem w' p N NW NS (backS S s i x r v) /\ Only (p.set S.sl) w w'
theorem backS_same {S : St} {s i : Nat} {x : Slt} {r : Res} {v : Ob} (hD : S.D[i]? = some v) (hx : S.sl[s]? = some x) (hr : x.res = some r) (hd : r.dirty = false) : backS S s i x r v = S:=by
 have e : ({ x with res:=some { r with dirty:=false } } : Slt) = x:=by
  cases x; cases r
  simp only at hr hd;subst hd;subst hr;rfl
 unfold backS;rw [e, set_same hx, set_same hD]
theorem LmMem.res {w : World} {p : LmP} {N NW NS : Nat} {S : St} (h : LmMem w p N NW NS S) {s : Nat} {x : Slt} {r : Res} (hx : S.sl[s]? = some x) (hr : x.res = some r) :
  w.cell? ⟨r.a, 0, none⟩ = some (.int .i64 (r.b : Int)) /\ w.cell? ⟨r.a, 1, none⟩ = some (.int .i64 r.kind) /\ w.cell? ⟨r.a, 2, none⟩ = some (.int .i64 (r.size : Int)) /\ w.cell? ⟨r.a, 3, none⟩ = some (.bool r.dirty) /\ ∀ i, w.frozen? ⟨r.a, i, none⟩ = false:=by
 have hb:=h.ress s r ((resOf_of hx).trans hr);have h0:=hb.cell 0;have h1:=hb.cell 1;have h2:=hb.cell 2;have h3:=hb.cell 3;simp only [qTa, qTb, qTc] at h0 h1 h2 h3;exact ⟨h0, h1, h2, h3, hb.frozen⟩
theorem LmMem.look2 {w : World} {p : LmP} {N NW NS : Nat} {S : St} (h : LmMem w p N NW NS S) :
  w.cell? ⟨p.m, 0, none⟩ = some (.pointer (some ⟨p.Q.q, 0, none⟩)) /\ w.cell? ⟨p.m, 1, none⟩ = some (.pointer (some ⟨p.H.h, 0, none⟩)) /\ w.cell? ⟨p.m, 2, none⟩ = some (.pointer (some ⟨p.T.t, 0, none⟩)) /\ w.cell? ⟨p.m, 3, none⟩ = some (.pointer (some ⟨p.c, 0, none⟩)) /\ w.cell? ⟨p.m, 4, none⟩ = some (.slice (some ⟨p.sb, 0, none⟩) (NS + 1) (NS + 1)) /\ w.cell? ⟨p.m, 5, none⟩ = some (.int .i64 (S.busy : Int)):=by
 have h0:=h.head.cell 0;have h1:=h.head.cell 1;have h2:=h.head.cell 2;have h3:=h.head.cell 3;have h4:=h.head.cell 4;have h5:=h.head.cell 5;simp only [qTa, qTb, qTc] at h0 h1 h2 h3 h4 h5;exact ⟨h0, h1, h2, h3, h4, h5⟩
theorem LmMem.drew {w : World} {p : LmP} {N NW NS : Nat} {S : St} (h : LmMem w p N NW NS S) : LmMem w.drew p N NW NS S:=h.only (only_drew (fun _ => False) w) (fun _ _ h => h)
theorem LmMem.drewN {w : World} {p : LmP} {N NW NS : Nat} {S : St} (h : LmMem w p N NW NS S) (n : Nat) : LmMem (w.drewN n) p N NW NS S:=h.only ((Only.refl (fun _ => False) w).drewN n) (fun _ _ h => h)
theorem LmMem.taken {w w2 : World} {p : LmP} {N NW NS : Nat} {S : St} (h : LmMem w p N NW NS S) (hS : SecAt w2 p.Q N S.D) (hO : Only (fun g => g = p.Q.P.d) w w2) : LmMem w2 p N NW NS S :=
 h.toDisk (hO.mono (fun k e => by subst e; exact .inr (.inr (.inr (.inl rfl))))) S.D hS
def Keep2 (p0 p1 : Addr) (v0 v1 : Value) (w : World) : Prop:=w.cell? p0 = some v0 /\ w.cell? p1 = some v1
theorem Keep2.only {p0 p1 : Addr} {v0 v1 : Value} {S : Nat -> Prop} {w w' : World} (h : Keep2 p0 p1 v0 v1 w) (ho : Only S w w') (h0 : p0.block < w.heap.size /\ ¬ S p0.block) (h1 : p1.block < w.heap.size /\ ¬ S p1.block) : Keep2 p0 p1 v0 v1 w' :=
 ⟨(ho.cell h0.1 h0.2).trans h.1, (ho.cell h1.1 h1.2).trans h.2⟩
theorem only_four (w : World) (g : Nat) (a b c d : Value) : Only (fun k => k = g) w ((((w.setCell ⟨g, 0, none⟩ a).setCell ⟨g, 1, none⟩ b).setCell ⟨g, 2, none⟩ c).setCell ⟨g, 3, none⟩ d) :=
 ((((Only.refl (fun k => k = g) w).setCell (p:=⟨g, 0, none⟩) (.inl rfl) _).setCell (p:=⟨g, 1, none⟩) (.inl rfl) _).setCell (p:=⟨g, 2, none⟩) (.inl rfl) _).setCell (p:=⟨g, 3, none⟩) (.inl rfl) _
theorem OwnsI.blk {w : World} {B : Nat} {A : Option Addr} {n cap : Nat} {l : List Int} (h : OwnsI w B (.slice A n cap) l) {a : Addr} (ha : A = some a) : ∃ g, a = ⟨g, 0, none⟩ /\ B <= g /\ g < w.heap.size:=by
 subst ha;rcases h.2 with ⟨e, _⟩ | ⟨g, cap', cur, e, hg, hh, _⟩
 ·injection e with e; cases e
 ·injection e with e;injection e with e;exact ⟨g, e, hg, (Array.getElem?_eq_some_iff.1 hh).1⟩
theorem OwnsB.blk {w : World} {B : Nat} {A : Option Addr} {n cap : Nat} {l : List Int} (h : OwnsB w B (.slice A n cap) l) {a : Addr} (ha : A = some a) : ∃ g, a = ⟨g, 0, none⟩ /\ B <= g /\ g < w.heap.size:=by
 subst ha;rcases h.2 with ⟨e, _⟩ | ⟨g, cap', cur, e, hg, hh, _⟩
 ·injection e with e; cases e
 ·injection e with e;injection e with e;exact ⟨g, e, hg, (Array.getElem?_eq_some_iff.1 hh).1⟩
theorem OwnsB.off_none {w : World} {B : Nat} {A : Option Addr} {n cap : Nat} {l : List Int} (h : OwnsB w B (.slice A n cap) l) (hA : A = none) (w' : World) : OwnsB w' B (.slice A n cap) l:=by
 subst hA;refine ⟨h.1, .inl ?_⟩;rcases h.2 with h | ⟨g, cap', cur, e, _⟩
 ·exact h
 ·injection e with e; cases e
theorem OwnsI.off_none {w : World} {B : Nat} {A : Option Addr} {n cap : Nat} {l : List Int} (h : OwnsI w B (.slice A n cap) l) (hA : A = none) (w' : World) : OwnsI w' B (.slice A n cap) l:=by
 subst hA;refine ⟨h.1, .inl ?_⟩;rcases h.2 with h | ⟨g, cap', cur, e, _⟩
 ·exact h
 ·injection e with e; cases e
structure Took (p : LmP) (N NW NS : Nat) (S : St) (o : Ob) (w wx : World) (ob : Nat) (A : Option Addr) (ca : Nat) (B : Option Addr) (cb : Nat) : Prop where
 blk : Blk wx ob 29 (obV o A ca B cb)
 low : w.heap.size <= ob
 ints : OwnsI wx w.heap.size (.slice A o.ws.length ca) o.ws
 byts : OwnsB wx w.heap.size (.slice B o.bs.length cb) o.bs
 offA : ∀ a, A = some a -> a.block ≠ ob
 offB : ∀ a, B = some a -> a.block ≠ ob
 res : ObR wx o A ca B cb
 nB : o.kind = 1 -> B = none
 nA : o.kind = 2 -> A = none
 mem : LmMem wx p N NW NS S
 only : Only (fun g => g = p.Q.P.d) w wx
section
variable {p : LmP} {N NW NS : Nat} {S : St} {o : Ob} {w w2 : World} {A : Option Addr} {ca : Nat} {B : Option Addr} {cb : Nat}
theorem took_a (hR : ObR w2 o A ca B cb) (hI : OwnsI w2 w.heap.size (.slice A o.ws.length ca) o.ws) (hB : OwnsB w2 w.heap.size (.slice B o.bs.length cb) o.bs) (h1 : o.kind = 1 -> B = none) (h2 : o.kind = 2 -> A = none) (hm : LmMem w2 p N NW NS S) (hO : Only (fun g => g = p.Q.P.d) w.drew w2) :
  Took p N NW NS S o w (w2.alloc (.cells (obV o A ca B cb) 29)) w2.heap.size A ca B cb:=by
 have hb:=(Below.refl w2.heap.size w2).alloc (Nat.le_refl _) (.cells (obV o A ca B cb) 29);refine ⟨Blk.new _ _ _, hO.size, hI.keep hb, hB.keep hb, ?_, ?_, hR.below hb, h1, h2, hm.below hb, ((only_drew _ w).trans hO).alloc _⟩
 ·intro a ha;obtain ⟨g, rfl, _, h⟩:=hI.blk ha;dsimp only; omega
 ·intro a ha;obtain ⟨g, rfl, _, h⟩:=hB.blk ha;dsimp only; omega
theorem took_b (hz : Blk w2 w.heap.size 29 zeroO) (hR : ObR w2 o A ca B cb) (hI : OwnsI w2 (w.heap.size + 1) (.slice A o.ws.length ca) o.ws) (hB : OwnsB w2 (w.heap.size + 1) (.slice B o.bs.length cb) o.bs) (h1 : o.kind = 1 -> B = none) (h2 : o.kind = 2 -> A = none) (h : LmMem w p N NW NS S) (hm : LmMem w2 p N NW NS S) (hO : Only (fun g => g = p.Q.P.d) (w.alloc (.cells zeroO 29)).drew w2) :
  Took p N NW NS S o w ((((w2.setCell ⟨w.heap.size, 0, none⟩ (.int .i64 o.cls)).setCell ⟨w.heap.size, 1, none⟩ (.int .i64 o.kind)).setCell ⟨w.heap.size, 2, none⟩ (.slice A o.ws.length ca)).setCell ⟨w.heap.size, 3, none⟩ (.slice B o.bs.length cb)) w.heap.size A ca B cb:=by
 have ho:=only_four w2 w.heap.size (.int .i64 o.cls) (.int .i64 o.kind) (.slice A o.ws.length ca) (.slice B o.bs.length cb);have hlt:=h.lt;have hI2:=hI.only ho (fun g e => by omega);have hB2:=hB.only ho (fun g e => by omega);refine ⟨hz.set1111 _ _ _ _, Nat.le_refl _, hI2.mono (by omega), hB2.mono (by omega), ?_, ?_, ?_, h1, h2, hm.only ho (fun k hk e => by have:=hlt k hk; omega), ?_⟩
 ·intro a ha;obtain ⟨g, rfl, h, _⟩:=hI.blk ha;dsimp only; omega
 ·intro a ha;obtain ⟨g, rfl, h, _⟩:=hB.blk ha;dsimp only; omega
 ·refine ⟨?_, ?_, hR.la, hR.lb, hR.ca63, hR.cb63, hR.na, hR.nb, hR.cls, hR.kind⟩
  ·obtain ⟨A', c', e, _, _, hA, _⟩:=hI2.reads (fun x hx => hR.ints.vals x hx);injection e with e; subst e; exact hA
  ·obtain ⟨A', c', e, _, _, hA, _⟩:=hB2.reads2 (fun x hx => hR.byts.vals x hx);injection e with e; subst e; exact hA
 ·exact Only.shrink ((((Only.refl (fun g => g = p.Q.P.d \/ w.heap.size <= g) w).alloc (.cells zeroO 29)).trans (((only_drew _ _).trans hO).mono (fun g h => Or.inl h))).trans (ho.mono (T:=fun g => g = p.Q.P.d \/ w.heap.size <= g) (fun g e => Or.inr (by omega)))) (fun g h => h.imp id (fun h => h))
end
theorem back_clean (p : LmP) (N NW NS s i : Nat) (S : St) (x : Slt) (r : Res) (v : Ob) (w : World) (h : LmMem w p N NW NS S) (hx : S.sl[s]? = some x) (hr : x.res = some r) (hD : S.D[i]? = some v) (hd : r.dirty = false) :
  Calls Tryz.prog 170 #[.pointer (some ⟨p.m, 0, none⟩), .pointer (some ⟨p.sb, s * 3, none⟩)] w (BackPost p N NW NS S s i x r v w):=by
 have fin : BackPost p N NW NS S s i x r v w (.returned (.tuple #[])) w:=⟨rfl, by rw [backS_same hD hx hr hd]; exact h, Only.refl _ _⟩;have FIN:=Lib.hid fin;obtain ⟨d0, _, _⟩:=h.look hx;obtain ⟨_, _, _, r3, _⟩:=h.res hx hr;rw [hr, Option.map_some] at d0;rw [hd] at r3;clear fin h hx hr hD hd;go_enter Tryz.func170, Tryz.ntmps170;go_wp2_with fail;go_end0
 exact FIN.out
theorem back_dirty (p : LmP) (N NW NS s i : Nat) (S : St) (Vt : List Ob) (ext : List Int) (ex pend : Nat -> Prop) (x : Slt) (r : Res) (v : Ob) (w : World) (h : LmMem w p N NW NS S) (hI : Inv NS S Vt ext ex pend) (hx : S.sl[s]? = some x) (hr : x.res = some r) (hid : x.id = (i : Int) + 1) (hv : Vt[i]? = some v) (hd : r.dirty = true) :
  Calls Tryz.prog 170 #[.pointer (some ⟨p.m, 0, none⟩), .pointer (some ⟨p.sb, s * 3, none⟩)] w (BackPost p N NW NS S s i x r v w):=by
 obtain ⟨i2, o, u, ws, k1, k2, k3, k4, k5, k6, k7, k8, k9, k10⟩:=hI.here s x r hx hr;have ei : i2 = i:=by have:=k1.symm.trans hid; omega
 subst ei;obtain rfl:=Option.some.inj (k3.symm.trans hv);obtain ⟨d0, d1, _⟩:=h.look hx;obtain ⟨r0, _, _, r3, rf⟩:=h.res hx hr;obtain ⟨m0, m1, _, _, _, _⟩:=h.look2;rw [hr, Option.map_some] at d0;rw [hid] at d1;rw [hd] at r3;have hok:=h.disk.ok o (mem_of_getElem? k2);have hbv:=h.disk.vals k2;have hF:=fetch_ok p.Q N S.D i2 o;have HF:=Lib.hid (fun W (hW : SecAt W p.Q N S.D) => hF W hW k2);have hparts:=fun (W W' : World) (v : Value) (hF : FreshO o W v W') => hF.parts hok hbv;unfold obV at hparts;have HP:=Lib.hid hparts;have H:=Lib.hid h;have HI:=Lib.hid hI;clear hF hI k9 h hparts;go_enter Tryz.func170, Tryz.ntmps170;go_upto_region 1 with (fail);go_cut [4] from 20 to 31 (fun s4 wx => ∃ (ob : Nat) (A : Option Addr) (ca : Nat) (B : Option Addr) (cb : Nat), s4 = .pointer (some ⟨ob, 0, none⟩) /\ Aside (Took p N NW NS S o w wx ob A ca B cb))
 case first =>
  have hb0:=(Below.refl w.heap.size w).alloc (Nat.le_refl _) (.cells zeroO 29);have ha:=H.out.drew;have hb:=(H.out.below hb0).drew;have hfa:=Lib.hid (HF.out w.drew ha.disk);have hfb:=Lib.hid (HF.out (w.alloc (.cells zeroO 29)).drew hb.disk);have HA:=Lib.hid ha;have HB:=Lib.hid hb;have hsbl:=H.out.slots.lt;have hml:=H.out.head.lt;have hdl:=H.out.disk.lt p.Q.P.d (.inr (.inr (.inr (.inl rfl))));have nA:=(Blk.new w 29 zeroO).drew;unfold zeroO at *;clear ha hb hb0;go_region_held3 (fun w' => w'.cell? ⟨p.m, 0, none⟩ = some (.pointer (some ⟨p.Q.q, 0, none⟩)) /\ w'.cell? ⟨p.sb, s * 3 + 1, none⟩ = some (.int .i64 ((i2 : Int) + 1)))
   (first | exact ⟨hm2, hd2⟩ | go_keep | exact Keep2.only (by assumption) (only_four w2 w.heap.size _ _ _ _) ⟨by dsimp only; omega, by dsimp only; omega⟩ ⟨by dsimp only; omega, by dsimp only; omega⟩)
   (first | (go_at_call 34; refine hfa.out.mono ?_; rintro e w2 ⟨y, rfl, hF, hS, hO⟩; obtain ⟨A, ca, B, cb, rfl, hR, hoI, hoB, hk1, hk2⟩:=HP.out _ _ y hF; have h2:=Lib.hid (HA.out.taken hS hO); have hm2:=h2.out.look2.1; have hd2 : w2.cell? ⟨p.sb, s * 3 + 1, none⟩ = some (.int .i64 ((i2 : Int) + 1)):=(h2.out.look hx).2.1.trans (by rw [hid])) | (go_at_call 34; refine hfb.out.mono ?_; rintro e w2 ⟨y, rfl, hF, hS, hO⟩; obtain ⟨A, ca, B, cb, rfl, hR, hoI, hoB, hk1, hk2⟩:=HP.out _ _ y hF; have h2:=Lib.hid (HB.out.taken hS hO); have hm2:=h2.out.look2.1; have hd2 : w2.cell? ⟨p.sb, s * 3 + 1, none⟩ = some (.int .i64 ((i2 : Int) + 1)):=(h2.out.look hx).2.1.trans (by rw [hid]); have nA2:=nA.only hO (by omega); have n0:=nA2.cell 0; have n1:=nA2.cell 1; have n2:=nA2.cell 2; have n3:=nA2.cell 3; simp only [qTa, qTb, qTc] at n0 n1 n2 n3; have nf:=nA2.frozen; have hz2 : w.heap.size + 1 <= w2.heap.size:=(by have:=hO.size; simpa using this)))
  ·go_wp2_with fail;go_meet;exact ⟨_, A, ca, B, cb, rfl, took_a hR (by simpa using hoI) (by simpa using hoB) hk1 hk2 h2.out hO⟩
  ·go_wp2_with fail;go_meet;exact ⟨_, A, ca, B, cb, rfl, took_b nA2 hR (by simpa using hoI) (by simpa using hoB) hk1 hk2 H.out h2.out hO⟩
 obtain ⟨ob, A, ca, B, cb, rfl, hT⟩:=hcut;have T:=hT.out;clear hT HF HP m0 m1 d0 d1 r0 r3 rf;obtain ⟨n, hn⟩ : ∃ n, n = o.ws.length:=⟨_, rfl⟩;obtain ⟨n2, hn2⟩ : ∃ n, n = o.bs.length:=⟨_, rfl⟩;have hblk : Blk wc ob 29 #[.int .i64 o.cls, .int .i64 o.kind, .slice A n ca, .slice B n2 cb]:=by rw [hn, hn2]; exact T.blk
 have hmax : n <= 1000 /\ n2 <= 1000 /\ (0 < n -> o.kind = 1 /\ ws.length = n) /\ (0 < n2 -> o.kind = 2 /\ ws.length = (n2 + 1) / 2):=by
  rw [hn, hn2];obtain ⟨_, h2⟩:=checkM_parts hok;rcases h2 with ⟨a1, a2, a3, _⟩ | ⟨a1, a2, a3⟩
  ·refine ⟨a3, by rw [a2]; simp, fun _ => ⟨a1, by rw [k7, a1]; simp [lenW, sizeM, a1]⟩, fun h => by rw [a2] at h; simp at h⟩
  ·refine ⟨by rw [a2]; simp, a3, fun h => by rw [a2] at h; simp at h, fun _ => ⟨a1, by rw [k7, a1]; simp [lenW, sizeM, a1]⟩⟩
 obtain ⟨x1, x2, x3, x4⟩:=hmax;have hlW : (backW S.ids ws o).length = o.ws.length:=by simp [backW]
 have hlB : (backB ws o).length = o.bs.length:=by simp [backB]
 have a1 : OwnsI wc w.heap.size (.slice A n ca) (upTo (backW S.ids ws o) o.ws 0):=by rw [upTo_zero, hn]; exact T.ints
 have a2 : OwnsB wc w.heap.size (.slice B n2 cb) o.bs:=by rw [hn2]; exact T.byts
 have HN:=Lib.hid hn;have HN2:=Lib.hid hn2;have X3:=Lib.hid x3;have X4:=Lib.hid x4;have HLW:=Lib.hid hlW;have HLB:=Lib.hid hlB;have K8:=Lib.hid k8;have K6:=Lib.hid k6;have K10:=Lib.hid k10;have HX:=Lib.hid hx;have HRR:=Lib.hid hr;have HID:=Lib.hid hid;have K2:=Lib.hid k2;have K3:=Lib.hid k3;have HTT:=Lib.hid T;have hTm:=T.mem;have hTo:=T.only;have hlow:=T.low;have hoA:=Lib.hid T.offA;have hoB:=Lib.hid T.offB;clear x3 x4 hlW hlB k8 k6 k10 hx hr hid k2 k3 hv hn hn2 T k7 k1 k4 k5 hd;have b2:=hblk.cell 2;have b3:=hblk.cell 3;simp only [qTa, qTb, qTc] at b2 b3;go_wp2_with fail;go_loopg [35] n (fun gk s35 wr => ∃ j : Nat, j + gk = n /\ s35 = .int .i64 j /\ Aside (LmMem wr p N NW NS S) /\ Aside (Blk wr ob 29 #[.int .i64 o.cls, .int .i64 o.kind, .slice A n ca, .slice B n2 cb]) /\ Aside (OwnsI wr w.heap.size (.slice A n ca) (upTo (backW S.ids ws o) o.ws j)) /\ Aside (OwnsB wr w.heap.size (.slice B n2 cb) o.bs) /\ Only (fun g => g = p.Q.P.d) w wr)
 case atStart => exact ⟨0, by omega, rfl, hTm, hblk, a1, a2, hTo⟩
 case round =>
  clear hTm hblk a1 a2 hTo b2 b3;obtain ⟨j, hj, rfl, hM, hB, hI1, hB1, hO⟩:=hrel;have M:=hM.out;have hblk:=hB.out;have b2:=hblk.cell 2;have b3:=hblk.cell 3;simp only [qTa, qTb, qTc] at b2 b3;cases gk with
  | succ g =>
   have hjn : (j : Int) < n:=by omega
   obtain ⟨y1, y2⟩:=X3.out (by omega);have hI2:=hI1.out;have hlen:=upTo_length HLW.out j;obtain ⟨ga, cur, hA, hgB, hnn, hgb, -⟩:=hI2.open_ (by rw [hlen]; have:=HN.out; omega);subst hA;have hga:=HTT.out.offA _ rfl;dsimp only at hga;obtain ⟨_, q2, q3, q4, q5⟩:=hI2.at_ (i:=j) (by rw [hlen]; have:=HN.out; omega);rw [upTo_get HLW.out, if_neg (by omega)] at q3;obtain ⟨d0, _, _⟩:=M.look HX.out;obtain ⟨r0, _, _, _, _⟩:=M.res HX.out HRR.out;obtain ⟨_, m1, _, _, _, _⟩:=M.look2;rw [HRR.out, Option.map_some] at d0;have hrd:=fun (k : Nat) => Lib.hid (heapRead_any p.H NW S.hc S.V S.t r.b j ws (wr.drewN k) (M.drewN k).heap K6.out (by omega));obtain ⟨y, hy⟩ : ∃ y, y = ws.getD j 0:=⟨_, rfl⟩;obtain ⟨th, hth⟩ : ∃ th, th = o.ws.getD j 0:=⟨_, rfl⟩;rw [<- hth] at q3;have hyok : okN NS y:=by rw [hy]; exact K10.out y1 _ (getD_mem (by omega))
   rw [<- hy] at hrd;have HRD:=Lib.hid hrd;have hval : meantM S.ids y th = (backW S.ids ws o).getD j 0:=by rw [hy, hth, backW, getD_range_map _ _ _ (by have:=HN.out; omega)]
   have HVAL:=Lib.hid hval;have HYOK:=Lib.hid hyok;have Y1:=Lib.hid y1;have HI2:=Lib.hid hI2;clear hrd q5 hval hyok hy hth hI1 hB hM y1 y2 hlen hgb hI2 hnn;go_wp2_with fail;go_quiet ((go_at_call 30; exact Calls.quiet_of (HRD.out _).out))
   have MW:=Lib.hid (M.drewN nq);have HBW:=Lib.hid (hblk.drewN nq);have hW : Only (fun g => g = p.Q.P.d) w (wr.drewN nq):=hO.drewN nq;have HB1:=Lib.hid ((hB1.out.only ((Only.refl (fun _ => False) wr).drewN nq) (fun _ h => h.elim)));have HI3:=Lib.hid (HI2.out.only ((Only.refl (fun _ => False) wr).drewN nq) (fun _ h => h.elim));have hsz : (wr.drewN nq).heap.size = wr.heap.size:=rfl;have c2 : (wr.drewN nq).cell? ⟨ob, 2, none⟩ = some (.slice (some ⟨ga, 0, none⟩) n ca):=b2;have c3 : (wr.drewN nq).cell? ⟨ga, j, none⟩ = some (.int .i64 th):=q3;have c4 : (wr.drewN nq).frozen? ⟨ga, j, none⟩ = false:=q4;rw [<- hsz] at q2;clear d0 r0 m1 b2 b3 q3 q4 hblk HRD M hO hB1 hsz HI2;generalize wr.drewN nq = W at MW HBW hW HB1 HI3 c2 c3 c4 q2 ⊢;go_upto_region 6 with (fail);have hmt:=meant_any p N NW NS y th S Vt ext ex pend W.drew MW.out.drew HI.out HYOK.out;rw [HVAL.out] at hmt;have HMT:=Lib.hid (hmt.mono (fun _ _ h => (⟨h.1, h.2.symm⟩ : _ /\ _)));clear hmt;go_still_tail 11, (by kernel_rfl)
   still_call HMT.out
   repeat still_step
   refine wpStill_nil ?_;change wpList _ _ _ _ _ W.drew;have MV:=Lib.hid MW.out.drew;have HBV:=Lib.hid HBW.out.drew;have hV : Only (fun g => g = p.Q.P.d) w W.drew:=hW.trans (only_drew _ W);have HB2:=Lib.hid (HB1.out.only (only_drew (fun _ => False) W) (fun _ h => h.elim));have HI4:=Lib.hid (HI3.out.only (only_drew (fun _ => False) W) (fun _ h => h.elim));have c5 : W.drew.cell? ⟨ga, j, none⟩ = some (.int .i64 th):=c3;have c6 : W.drew.frozen? ⟨ga, j, none⟩ = false:=c4;clear c2 c3 c4 MW HBW hW HB1 HI3 q2 HMT;generalize W.drew = V at MV HBV hV HB2 HI4 c5 c6 ⊢;go_wp2_with fail;have hoT : Only (fun k => k = ga) V (V.setCell ⟨ga, j, none⟩ (.int .i64 ((backW S.ids ws o).getD j 0))):=(Only.refl (fun k => k = ga) V).setCell (p:=⟨ga, j, none⟩) (.inl rfl) _;have hlt:=H.out.lt;have e1 : Aside (LmMem (V.setCell ⟨ga, j, none⟩ (.int .i64 ((backW S.ids ws o).getD j 0))) p N NW NS S):=MV.out.only hoT (fun k hk e => by have:=hlt k hk; omega);have e2 : Aside (Blk (V.setCell ⟨ga, j, none⟩ (.int .i64 ((backW S.ids ws o).getD j 0))) ob 29 #[.int .i64 o.cls, .int .i64 o.kind, .slice (some ⟨ga, 0, none⟩) n ca, .slice B n2 cb]):=HBV.out.far (p:=⟨ga, j, none⟩) (Ne.symm hga) _;have e3 : Aside (OwnsI (V.setCell ⟨ga, j, none⟩ (.int .i64 ((backW S.ids ws o).getD j 0))) w.heap.size (.slice (some ⟨ga, 0, none⟩) n ca) (upTo (backW S.ids ws o) o.ws (j + 1))):=by obtain ⟨_, _, _, _, q5⟩:=HI4.out.at_ (i:=j) (by rw [upTo_length HLW.out]; have:=HN.out; omega);have q6:=q5 ((backW S.ids ws o).getD j 0);rw [upTo_set HLW.out] at q6;exact q6
   have e4 : Aside (OwnsB (V.setCell ⟨ga, j, none⟩ (.int .i64 ((backW S.ids ws o).getD j 0))) w.heap.size (.slice B n2 cb) o.bs):=(HB2.out).off_none (HTT.out.nB Y1.out) _;have e5:=hV.setCell (p:=⟨ga, j, none⟩) (.inr hgB) (.int .i64 ((backW S.ids ws o).getD j 0));clear hoT hlt HB2 MV HBV hV HI4 c5 c6;go_roundg g
   case measure => omega
   case rel => exact ⟨j + 1, by omega, by go_num, e1, e2, e3, e4, e5⟩
  | zero =>
   have hjn : ¬ ((j : Int) < n):=by omega
   have ejn : j = n:=by omega
   have hI2:=hI1.out;rw [upTo_all HLW.out (by have:=HN.out; omega)] at hI2;have hB2:=hB1.out;have hB3 : OwnsB wr w.heap.size (.slice B n2 cb) (upTo (backB ws o) o.bs 0):=by rw [upTo_zero]; exact hB2
   clear hI1 hB1 hB2 hM hB;go_wp2_with fail;go_loopg [70] n2 (fun gk s70 wz => ∃ j : Nat, j + gk = n2 /\ s70 = .int .i64 j /\ Aside (LmMem wz p N NW NS S) /\ Aside (Blk wz ob 29 #[.int .i64 o.cls, .int .i64 o.kind, .slice A n ca, .slice B n2 cb]) /\ Aside (OwnsI wz w.heap.size (.slice A n ca) (backW S.ids ws o)) /\ Aside (OwnsB wz w.heap.size (.slice B n2 cb) (upTo (backB ws o) o.bs j)) /\ Only (fun g => g = p.Q.P.d) w wz)
   case atStart => exact ⟨0, by omega, rfl, M, hblk, hI2, hB3, hO⟩
   case round =>
    clear M hblk hI2 hB3 hO b2 b3 hjn ejn hj j;obtain ⟨j, hj, rfl, hM, hB, hI1, hB1, hO⟩:=hrel;have M:=hM.out;have hblk:=hB.out;have b3:=hblk.cell 3;simp only [qTa, qTb, qTc] at b3;cases gk with
    | succ g =>
     have hjn : (j : Int) < n2:=by omega
     obtain ⟨y1, y2⟩:=X4.out (by omega);have hI1':=Lib.hid hI1.out;have hB2:=hB1.out;have hlen:=upTo_length HLB.out j;obtain ⟨gb, cur, hA, hgB, hnn, hgb, -⟩:=hB2.open_ (by rw [hlen]; have:=HN2.out; omega);subst hA;have hga:=HTT.out.offB _ rfl;dsimp only at hga;obtain ⟨_, q2, q3, q4, q5⟩:=hB2.at_ (i:=j) (by rw [hlen]; have:=HN2.out; omega);rw [upTo_get HLB.out, if_neg (by omega)] at q3;obtain ⟨d0, _, _⟩:=M.look HX.out;obtain ⟨r0, _, _, _, _⟩:=M.res HX.out HRR.out;obtain ⟨_, m1, _, _, _, _⟩:=M.look2;rw [HRR.out, Option.map_some] at d0;obtain ⟨jh, hjh⟩ : ∃ jh : Nat, jh = j / 2:=⟨_, rfl⟩;have hjh2 : (j : Int) / 2 = (jh : Int):=by omega
     have hjh3 : (j : Int).tdiv 2 = (jh : Int):=by rw [Int.tdiv_eq_ediv_of_nonneg (by omega)]; exact hjh2
     have hrd:=fun (k : Nat) => Lib.hid (heapRead_any p.H NW S.hc S.V S.t r.b jh ws (wr.drewN k) (M.drewN k).heap K6.out (by omega));obtain ⟨y, hy⟩ : ∃ y, y = ws.getD jh 0:=⟨_, rfl⟩;have hyv:=(M.heap.vals K6.out).2.2 _ (getD_mem (l:=ws) (j:=jh) (by omega));obtain ⟨th, hth⟩ : ∃ th, th = o.bs.getD j 0:=⟨_, rfl⟩;rw [<- hth] at q3;rw [<- hy] at hrd hyv;have HRD:=Lib.hid hrd;have hval : byteM y j = (backB ws o).getD j 0:=by rw [hy, backB, getD_range_map _ _ _ (by have:=HN2.out; omega), hjh]
     have HVAL:=Lib.hid hval;have HI2:=Lib.hid hB2;have Y1:=Lib.hid y1;have HJH:=Lib.hid hjh;obtain ⟨yl, yh⟩:=hyv;clear hrd q5 hval hy hth hI1 hB hM y1 y2 hlen hgb hB2 hB1 hnn hjh;go_wp2_with fail;go_quiet ((go_at_call 30; exact Calls.quiet_of (HRD.out _).out))
     have MW:=Lib.hid (M.drewN nq);have HBW:=Lib.hid (hblk.drewN nq);have hW : Only (fun g => g = p.Q.P.d) w (wr.drewN nq):=hO.drewN nq;have HA1:=Lib.hid ((hI1'.out.only ((Only.refl (fun _ => False) wr).drewN nq) (fun _ h => h.elim)));have HI3:=Lib.hid (HI2.out.only ((Only.refl (fun _ => False) wr).drewN nq) (fun _ h => h.elim));have hsz : (wr.drewN nq).heap.size = wr.heap.size:=rfl;have c2 : (wr.drewN nq).cell? ⟨ob, 3, none⟩ = some (.slice (some ⟨gb, 0, none⟩) n2 cb):=b3;have c3 : (wr.drewN nq).cell? ⟨gb, j, none⟩ = some (.int .u8 th):=q3;have c4 : (wr.drewN nq).frozen? ⟨gb, j, none⟩ = false:=q4;rw [<- hsz] at q2;clear d0 r0 m1 b3 q3 q4 hblk HRD M hO hsz HI2;generalize wr.drewN nq = W at MW HBW hW HA1 HI3 c2 c3 c4 q2 ⊢;clear hjh2 hjh3;go_upto_region 12 with (fail);have MV:=Lib.hid MW.out.drew;have HBV:=Lib.hid HBW.out.drew;have hV : Only (fun g => g = p.Q.P.d) w W.drew:=hW.trans (only_drew _ W);have HA2:=Lib.hid (HA1.out.only (only_drew (fun _ => False) W) (fun _ h => h.elim));have HI4:=Lib.hid (HI3.out.only (only_drew (fun _ => False) W) (fun _ h => h.elim));have c5 : W.drew.cell? ⟨gb, j, none⟩ = some (.int .u8 th):=c3;have c6 : W.drew.frozen? ⟨gb, j, none⟩ = false:=c4;have w8 : IntKind.i64.wrap 8 = 8:=by decide
     have w0 : IntKind.i64.wrap 0 = 0:=by decide
     rcases Nat.mod_two_eq_zero_or_one j with hp | hp
     ·have t1 : (j : Int) % 2 = 0:=by omega
      have t2 : (j : Int).tmod 2 = 0:=by rw [Int.tmod_eq_emod_of_nonneg (by omega)]; exact t1
      clear hp;go_still_tail 10, (by kernel_rfl)
      change wpList _ _ _ _ _ W.drew;clear c2 c3 c4 MW HBW hW HA1 HI3 q2;generalize W.drew = V at MV HBV hV HA2 HI4 c5 c6 ⊢;go_wp2_with fail;have hv2 : (backB ws o).getD j 0 = y / 256:=by rw [<- HVAL.out, byteM, if_pos (by omega)];omega
      rw [<- hv2];have hoT : Only (fun k => k = gb) V (V.setCell ⟨gb, j, none⟩ (.int .u8 ((backB ws o).getD j 0))):=(Only.refl (fun k => k = gb) V).setCell (p:=⟨gb, j, none⟩) (.inl rfl) _;have hlt:=H.out.lt;have e1 : Aside (LmMem (V.setCell ⟨gb, j, none⟩ (.int .u8 ((backB ws o).getD j 0))) p N NW NS S):=MV.out.only hoT (fun k hk e => by have:=hlt k hk; omega);have e2 : Aside (Blk (V.setCell ⟨gb, j, none⟩ (.int .u8 ((backB ws o).getD j 0))) ob 29 #[.int .i64 o.cls, .int .i64 o.kind, .slice A n ca, .slice (some ⟨gb, 0, none⟩) n2 cb]):=HBV.out.far (p:=⟨gb, j, none⟩) (Ne.symm hga) _;have e3 : Aside (OwnsB (V.setCell ⟨gb, j, none⟩ (.int .u8 ((backB ws o).getD j 0))) w.heap.size (.slice (some ⟨gb, 0, none⟩) n2 cb) (upTo (backB ws o) o.bs (j + 1))):=by obtain ⟨_, _, _, _, q5⟩:=HI4.out.at_ (i:=j) (by rw [upTo_length HLB.out]; have:=HN2.out; omega);have q6:=q5 ((backB ws o).getD j 0);rw [upTo_set HLB.out] at q6;exact q6
      have e4 : Aside (OwnsI (V.setCell ⟨gb, j, none⟩ (.int .u8 ((backB ws o).getD j 0))) w.heap.size (.slice A n ca) (backW S.ids ws o)):=(HA2.out).off_none (HTT.out.nA Y1.out) _;have e5:=hV.setCell (p:=⟨gb, j, none⟩) (.inr hgB) (.int .u8 ((backB ws o).getD j 0));clear hoT hlt HA2 MV HBV hV HI4 c5 c6;go_roundg g
      case measure => omega
      case rel => exact ⟨j + 1, by omega, by go_num, e1, e2, e4, e3, e5⟩
     ·have t1 : (j : Int) % 2 = 1:=by omega
      have t2 : (j : Int).tmod 2 = 1:=by rw [Int.tmod_eq_emod_of_nonneg (by omega)]; exact t1
      clear hp;go_still_tail 10, (by kernel_rfl)
      change wpList _ _ _ _ _ W.drew;clear c2 c3 c4 MW HBW hW HA1 HI3 q2;generalize W.drew = V at MV HBV hV HA2 HI4 c5 c6 ⊢;go_wp2_with fail;have hv2 : (backB ws o).getD j 0 = y % 256:=by rw [<- HVAL.out, byteM, if_neg (by omega)]
      rw [<- hv2];have hoT : Only (fun k => k = gb) V (V.setCell ⟨gb, j, none⟩ (.int .u8 ((backB ws o).getD j 0))):=(Only.refl (fun k => k = gb) V).setCell (p:=⟨gb, j, none⟩) (.inl rfl) _;have hlt:=H.out.lt;have e1 : Aside (LmMem (V.setCell ⟨gb, j, none⟩ (.int .u8 ((backB ws o).getD j 0))) p N NW NS S):=MV.out.only hoT (fun k hk e => by have:=hlt k hk; omega);have e2 : Aside (Blk (V.setCell ⟨gb, j, none⟩ (.int .u8 ((backB ws o).getD j 0))) ob 29 #[.int .i64 o.cls, .int .i64 o.kind, .slice A n ca, .slice (some ⟨gb, 0, none⟩) n2 cb]):=HBV.out.far (p:=⟨gb, j, none⟩) (Ne.symm hga) _;have e3 : Aside (OwnsB (V.setCell ⟨gb, j, none⟩ (.int .u8 ((backB ws o).getD j 0))) w.heap.size (.slice (some ⟨gb, 0, none⟩) n2 cb) (upTo (backB ws o) o.bs (j + 1))):=by obtain ⟨_, _, _, _, q5⟩:=HI4.out.at_ (i:=j) (by rw [upTo_length HLB.out]; have:=HN2.out; omega);have q6:=q5 ((backB ws o).getD j 0);rw [upTo_set HLB.out] at q6;exact q6
      have e4 : Aside (OwnsI (V.setCell ⟨gb, j, none⟩ (.int .u8 ((backB ws o).getD j 0))) w.heap.size (.slice A n ca) (backW S.ids ws o)):=(HA2.out).off_none (HTT.out.nA Y1.out) _;have e5:=hV.setCell (p:=⟨gb, j, none⟩) (.inr hgB) (.int .u8 ((backB ws o).getD j 0));clear hoT hlt HA2 MV HBV hV HI4 c5 c6;go_roundg g
      case measure => omega
      case rel => exact ⟨j + 1, by omega, by go_num, e1, e2, e4, e3, e5⟩
    | zero =>
     have hjn : ¬ ((j : Int) < n2):=by omega
     have hI2:=hI1.out;have hB2:=hB1.out;rw [upTo_all HLB.out (by have:=HN2.out; omega)] at hB2;obtain ⟨d0, d1, -⟩:=M.look HX.out;obtain ⟨r0, -, -, -, rf⟩:=M.res HX.out HRR.out;obtain ⟨m0, -, -, -, -, -⟩:=M.look2;rw [HRR.out, Option.map_some] at d0;rw [HID.out] at d1;have c0:=hblk.cell 0;have c1:=hblk.cell 1;have c2:=hblk.cell 2;simp only [qTa, qTb, qTc] at c0 c1 c2;have hgood:=HI.out.good u (mem_of_getElem? K3.out);have hu:=K8.out.eq hok;have hR : ObR wr.drew u A ca B cb:=by
      have hRo:=HTT.out.res;have hbd:=checkM_bd hgood;rw [hu] at hbd ⊢;refine ⟨?_, ?_, by show (backW S.ids ws o).length <= ca; rw [HLW.out]; exact hRo.la, by show (backB ws o).length <= cb; rw [HLB.out]; exact hRo.lb, hRo.ca63, hRo.cb63, hRo.na, hRo.nb, hRo.cls, hRo.kind⟩
      ·have e1:=hI2;obtain ⟨A', c', e, _, _, hA, _⟩:=e1.reads (fun x hx => by have:=hbd x (by simp [hx]); omega);injection e with e; subst e;exact hA.below (below_drewN (Below.refl _ _) 1)
      ·have e1:=hB2;obtain ⟨A', c', e, _, _, hA, _⟩:=e1.reads2 (fun x hx => by obtain ⟨k, _, rfl⟩:=List.mem_map.1 hx;unfold byteM;split <;> omega)
       injection e with e; subst e;exact hA.below (below_drewN (Below.refl _ _) 1)
     have hst:=store_any p.Q N S.D i2 o u A ca B cb wr.drew M.drew.disk K2.out hR hgood K8.out.lenE;have hobv : obV u A ca B cb = #[.int .i64 o.cls, .int .i64 o.kind, .slice A n ca, .slice B n2 cb]:=by rw [hu, HN.out, HN2.out];unfold obV;simp only;rw [HLW.out, HLB.out]
     rw [hobv] at hst;have HST:=Lib.hid hst;have MH:=Lib.hid M.drew;have hO2 : Only (fun g => g = p.Q.P.d) w wr.drew:=hO.trans (only_drew _ wr);have HU:=Lib.hid hu;clear hst hR hu hobv hgood hI2 hB2 hI1 hB1 hB hM hO;go_upto_region 14 with (fail);go_still_tail 9, (by kernel_rfl)
     change wpList _ _ _ _ _ wr.drew;clear M d0 d1 r0 rf m0 c0 c1 c2 b3 hblk;generalize wr.drew = V at MH HST hO2 ⊢;go_wp2_with fail;refine HST.out.mono ?_;rintro e w5 ⟨rfl, hS5, hO5⟩;have M5:=MH.out.toDisk hO5 _ hS5;obtain ⟨d0, -, -⟩:=M5.look HX.out;obtain ⟨-, -, -, r3, rf⟩:=M5.res HX.out HRR.out;rw [HRR.out, Option.map_some] at d0;have M6:=M5.toDirty HX.out HRR.out false;have hres:=(resOf_of HX.out).trans HRR.out;have hO6:=((hO2.mono (T:=p.set S.sl) (fun k e => by subst e; exact ⟨1, .inr (.inr (.inr (.inl rfl)))⟩)).trans (hO5.mono (fun k hk => ⟨1, hk⟩))).setCell (p:=⟨r.a, 3, none⟩) (.inl ⟨s + 6, r, hres, rfl⟩) (.bool false);have fin : BackPost p N NW NS S s i2 x r u w (.returned (.tuple #[])) (w5.setCell ⟨r.a, 3, none⟩ (.bool false)):=⟨rfl, M6, hO6⟩;have FIN:=Lib.hid fin;clear M5 M6 hO6 fin hres hS5 hO5 MH hO2;go_wp2_with fail;go_end0
     exact FIN.out
end Go.Proofs.YtgaemfghpibeeaaGreatDoor
namespace Go.Proofs.YtgaemfghpibeeaaGreatDoor
open Go.RowKit
theorem back_any (p : LmP) (N NW NS s i : Nat) (S : St) (Vt : List Ob) (ext : List Int) (ex pend : Nat -> Prop) (x : Slt) (r : Res) (v : Ob) (w : World) (h : LmMem w p N NW NS S) (hI : Inv NS S Vt ext ex pend) (hx : S.sl[s]? = some x) (hr : x.res = some r) (hid : x.id = (i : Int) + 1) (hv : Vt[i]? = some v) :
  Calls Tryz.prog 170 #[.pointer (some ⟨p.m, 0, none⟩), .pointer (some ⟨p.sb, s * 3, none⟩)] w (BackPost p N NW NS S s i x r v w):=by
 cases hd : r.dirty with
 | false =>
  obtain ⟨i2, o, u, ws, k1, k2, k3, k4, k5, k6, k7, k8, k9, k10⟩:=hI.here s x r hx hr;have ei : i2 = i:=by have:=k1.symm.trans hid; omega
  subst ei;obtain rfl:=Option.some.inj (k3.symm.trans hv);exact back_clean p N NW NS s i2 S x r u w h hx hr (by rw [k9 hd]; exact k2) hd
 | true => exact back_dirty p N NW NS s i S Vt ext ex pend x r v w h hI hx hr hid hv hd
def EvictPost (p : LmP) (N NW NS : Nat) (S : St) (Vt : List Ob) (ext : List Int) (ex pend : Nat -> Prop) (s : Nat) (w : World) (e : Ending) (w' : World) : Prop :=
 e = .returned (.tuple #[]) /\ ∃ S', LmMem w' p N NW NS S' /\ Inv NS S' Vt ext ex pend /\ Fell S S' /\ resOf S'.sl s = none /\ S'.hc = S.hc /\ Only (p.set S.sl) w w'
theorem back_res {S : St} {s i : Nat} {x : Slt} {r : Res} {v : Ob} (hx : S.sl[s]? = some x) : (backS S s i x r v).sl[s]? = some { x with res:=some { r with dirty:=false } }:=List.getElem?_set_self (List.getElem?_eq_some_iff.1 hx).1
theorem back_sub {S : St} {s i : Nat} {x : Slt} {r : Res} {v : Ob} (hx : S.sl[s]? = some x) (hr : x.res = some r) (p : LmP) : ∀ k, p.set (backS S s i x r v).sl k -> p.set S.sl k:=by
 rintro k ⟨i, hi⟩
 match i, hi with
 | 0, hi => exact ⟨0, hi⟩
 | 1, hi => exact ⟨1, hi⟩
 | 2, hi => exact ⟨2, hi⟩
 | 3, hi => exact ⟨3, hi⟩
 | 4, hi => exact ⟨4, hi⟩
 | 5, hi => exact ⟨5, hi⟩
 | s2 + 6, hi =>
  obtain ⟨r2, h2, e⟩:=hi;have h3 : resOf (S.sl.set s { x with res:=some { r with dirty:=false } }) s2 = some r2:=h2;rw [resOf_set _ _ _ (List.getElem?_eq_some_iff.1 hx).1] at h3;by_cases e2 : s2 = s
  ·rw [if_pos e2] at h3;cases h3
   exact ⟨s + 6, r, (resOf_of hx).trans hr, e⟩
  ·rw [if_neg e2] at h3;exact ⟨s2 + 6, r2, h3, e⟩
theorem only_grown {w w' : World} {row : Option Nat} (h : w.grownBy w' row) : Only (fun g => some g = row) w w':=⟨h.os, h.tape, h.output, h.size, fun i hi hs => h.block i hi hs⟩
theorem back_gone {S : St} {s i : Nat} {x : Slt} {r : Res} {v : Ob} (t : Bool) (L : List Ck.Pl) (V : Nat -> Option (List Int)) : Fell S { backS S s i x r v with V:=V, t:=t, L:=L, sl:=(backS S s i x r v).sl.set s { x with res:=none } } ↔ Fell S { S with sl:=S.sl.set s { x with res:=none } }:=by
 have e : (backS S s i x r v).sl.set s { x with res:=none } = S.sl.set s { x with res:=none }:=by unfold backS;simp only [List.set_set]
 rw [e];exact ⟨fun h => ⟨h.busy, h.slot⟩, fun h => ⟨h.busy, h.slot⟩⟩
theorem fell_gone {S : St} {s : Nat} {x : Slt} (hx : S.sl[s]? = some x) : Fell S { S with sl:=S.sl.set s { x with res:=none } }:=by
 refine ⟨rfl, fun s2 z hz => ?_⟩;rcases slt_set hz with ⟨rfl, rfl⟩ | ⟨_, hz⟩
 ·exact ⟨x, hx, .inl rfl, .inl rfl⟩
 ·exact ⟨z, hz, .inl rfl, .inr rfl⟩
theorem evict_any (p : LmP) (N NW NS s : Nat) (S : St) (Vt : List Ob) (ext : List Int) (ex pend : Nat -> Prop) (x : Slt) (r : Res) (w : World) (h : LmMem w p N NW NS S) (hI : Inv NS S Vt ext ex pend) (hx : S.sl[s]? = some x) (hr : x.res = some r) (hext : ext.length <= 1000) :
  Calls Tryz.prog 212 #[.pointer (some ⟨p.m, 0, none⟩), .int .i64 s, .bool true] w (EvictPost p N NW NS S Vt ext ex pend s w):=by
 obtain ⟨i, o, v, ws, k1, k2, k3, k4, k5, k6, k7, k8, k9, k10⟩:=hI.here s x r hx hr;have hbk:=back_any p N NW NS s i S Vt ext ex pend x r v w h hI hx hr k1 k3;have hI1 : Inv NS (backS S s i x r v) Vt ext ex pend:=hI.back hx hr k1 k3 h.dist;have hlS:=h.lenS;have hlt:=(List.getElem?_eq_some_iff.1 hx).1;have hsN : s < NS + 1:=by omega
 have hs1 : 1 <= s:=by
  rcases Nat.eq_zero_or_pos s with e | e
  ·subst e;have:=(hI.zero x hx).1;rw [hr] at this; cases this
  ·exact e
 have hNS:=h.small;obtain ⟨-, -, -, -, m4, -⟩:=h.look2;have hlt0:=h.lt;have hx1:=back_res (i:=i) (r:=r) (v:=v) hx;have hsub:=back_sub (i:=i) (v:=v) hx hr p;have hfell:=fun t L V => (back_gone (i:=i) (r:=r) (v:=v) (s:=s) t L V).2 (fell_gone hx);have hid0 : x.id ≠ 0:=by omega
 obtain ⟨all, hall⟩ : ∃ all, all = (if r.kind = 1 then ws else []):=⟨_, rfl⟩
 have hallen : all.length <= 32768 /\ (r.kind = 1 -> all.length = r.size /\ all = ws) /\ (r.kind ≠ 1 -> all = []) /\ ∀ y ∈ all, 0 <= y /\ y <= 65535:=by
  have h1:=h.heap.vals k6;have h2:=h.heap.size;rw [hall];by_cases hk : r.kind = 1
  ·rw [if_pos hk];exact ⟨by omega, fun _ => ⟨by rw [k7, k5, <- k4, hk]; simp [lenW], rfl⟩, fun e => absurd hk e, h1.2.2⟩
  ·rw [if_neg hk];exact ⟨by simp, fun e => absurd e hk, fun _ => rfl, fun y hy => by cases hy⟩
 obtain ⟨al1, al2, al3, al4⟩:=hallen;have hev:=fun (L' : S.L.length = NS + 1) => hI1.evict hx1 rfl rfl (show (backS S s i x r v).V r.b = some ws from k6) L';have hev1:=hev h.lenL;have HBK:=Lib.hid hbk;have HI1:=Lib.hid hI1;have H:=Lib.hid h;have HX1:=Lib.hid hx1;have HSUB:=Lib.hid hsub;have K6:=Lib.hid k6;have HLT:=Lib.hid hlt0;have HX:=Lib.hid hx;have HR:=Lib.hid hr;have AL2:=Lib.hid al2;have AL3:=Lib.hid al3;have AL4:=Lib.hid al4;have HF:=Lib.hid hfell;have HEV:=Lib.hid hev1;have HID:=Lib.hid hid0;have HALL:=Lib.hid hall;have hsL0:=Lib.hid (show s < S.L.length by rw [h.lenL]; exact hsN);have HLL:=Lib.hid h.lenL;clear hbk hI1 h hI hx1 hsub k6 k5 k7 k10 k4 k8 k9 k1 k2 k3 hlt0 hx hr hlt hlS al2 al3 al4 hfell hev hev1 hid0 hall;go_enter Tryz.func212, Tryz.ntmps212;go_wp2_with fail;refine HBK.out.mono ?_;rintro e w1 ⟨rfl, hM1, hO1⟩;have HS1 : S = S:=rfl;clear HS1 m4;go_wp2_with fail;go_loopg [7, 8] all.length (fun gk s7 s8 wr => ∃ j : Nat, j + gk = all.length /\ s8 = .int .i64 j /\ OwnsI wr w.heap.size s7 (all.take j) /\ Aside (LmMem wr p N NW NS (backS S s i x r v)) /\ Only (p.set S.sl) w wr)
 case atStart => exact ⟨0, by omega, rfl, World.ownsRow_nil _ _ _ _, hM1, hO1⟩
 case round =>
  clear hM1 hO1;obtain ⟨j, hj, rfl, hown, hM, hO⟩:=hrel;have M:=hM.out;obtain ⟨d0, -, -⟩:=M.look HX1.out;obtain ⟨r0, r1, r2, -, -⟩:=M.res HX1.out rfl;simp only [Option.map_some] at d0;obtain ⟨-, m1, -, m3, m4, -⟩:=M.look2;obtain ⟨n, hn⟩ : ∃ n, n = all.length:=⟨_, rfl⟩;have HN:=Lib.hid hn;rw [<- hn] at hj al1;clear hn;go_upto_region 5 with (fail);go_cut [41] from 23 to 63 (fun c wx => c = .bool (decide ((j : Int) < n)) /\ wx = wr)
  case first =>
   by_cases hk : r.kind = 1
   ·rw [hk] at r1;have e2:=(AL2.out hk).1;rw [<- HN.out] at e2;by_cases hjn : (j : Int) < n
    ·have hb : decide ((j : Int) < (r.size : Int)) = true:=by rw [<- e2]; simpa using hjn
     have hb2 : (j : Int) < (r.size : Int):=by rw [<- e2]; exact hjn
     have hb3 : decide ((j : Int) < (n : Int)) = true:=by simpa using hjn
     clear hk e2;go_wp2_with fail;go_meet;exact ⟨by rw [hb3], rfl⟩
    ·have hb2 : ¬ (j : Int) < (r.size : Int):=by rw [<- e2]; exact hjn
     have hb3 : decide ((j : Int) < (n : Int)) = false:=by simpa using hjn
     clear hk e2;go_wp2_with fail;go_meet;exact ⟨by rw [hb3], rfl⟩
   ·have e2:=AL3.out hk;have e3:=HN.out;rw [e2] at e3;simp at e3;have hb : (r.kind == 1) = false:=by simpa using hk
    have hb3 : decide ((j : Int) < (n : Int)) = false:=by simp; omega
    clear hk e2 e3;go_wp2_with fail;go_meet;exact ⟨by rw [hb3], rfl⟩
  obtain ⟨rfl, hwc⟩:=hcut;subst wc;cases gk with
  | succ g =>
   have hjn : (j : Int) < n:=by omega
   have hb3 : decide ((j : Int) < (n : Int)) = true:=by simpa using hjn
   rw [hb3];clear hb3;have hk : r.kind = 1:=by
    by_cases hk : r.kind = 1
    ·exact hk
    ·have:=HN.out; rw [AL3.out hk] at this; simp at this; omega
   have eall:=(AL2.out hk).2;obtain ⟨y, hy⟩ : ∃ y, y = ws.getD j 0:=⟨_, rfl⟩;have hjw : j < ws.length:=by rw [<- eall, <- HN.out]; omega
   have hrd:=fun (k : Nat) => Lib.hid (heapRead_any p.H NW (backS S s i x r v).hc (backS S s i x r v).V (backS S s i x r v).t r.b j ws (wr.drewN k) (M.drewN k).heap K6.out hjw);rw [<- hy] at hrd;have HRD:=Lib.hid hrd;have hts : all.take (j + 1) = all.take j ++ [y]:=by rw [eall, hy, getD_eq_getElem?_getD, getElem?_eq_getElem hjw];exact List.take_succ_eq_append_getElem hjw
   have HTS:=Lib.hid hts;have hyv:=AL4.out y (by rw [eall, hy]; exact getD_mem hjw);obtain ⟨yl, yh⟩:=hyv;clear hrd hts hy hk eall hjw;go_wp2_with fail;go_quiet ((go_at_call 30; exact Calls.quiet_of (HRD.out _).out))
   have MW:=Lib.hid (M.drewN nq);have hW : Only (p.set S.sl) w (wr.drewN nq):=hO.drewN nq;have hownW : OwnsI (wr.drewN nq) w.heap.size u7 (all.take j):=hown.only ((Only.refl (fun _ => False) wr).drewN nq) (fun _ h => h.elim);clear hown hO M hM HRD d0 r0 r1 r2 m1 m3 m4;generalize wr.drewN nq = W at MW hW hownW ⊢;have hown2 : OwnsI (W.alloc (.cells #[.int .i64 y] 3)) w.heap.size u7 (all.take j):=World.ownsRow.alloc hownW (.cells #[.int .i64 y] 3);have HI2:=Lib.hid (Ints.of_blk (blk_ints W y) (by intro v hv; simp at hv; omega));have hz:=hW.size;have hl : (all.take j).length <= 32768:=by rw [List.length_take]; omega
   clear hownW;go_wp2_with (at_builtin; refine append_ints rfl _ _ rfl w.heap.size _ (all.take j) rfl hown2 _ [y] _ _ rfl rfl HI2.out (fun h => by cases h) ?c1 (by simp; omega) ?_)
   case c1 => exact Nat.le_trans (Nat.add_le_add_right hl _) (by simp)
   intro v5 w5 hown5 hg5;have hown6 : OwnsI w5 w.heap.size v5 (all.take (j + 1)):=by rw [HTS.out]; exact hown5
   have hon:=only_grown hg5;have hlow : ∀ k, some k = u7.ownBlock -> w.heap.size <= k:=fun k hk => (hown2.lt k hk.symm).1;have hM6 : Aside (LmMem w5 p N NW NS (backS S s i x r v)):=by have h1:=MW.out.below ((Below.refl W.heap.size W).alloc (Nat.le_refl _) (.cells #[.int .i64 y] 3));exact h1.only hon (fun k hk e => by have:=HLT.out k (HSUB.out k hk); have:=hlow k e; omega)
   have hO6 : Only (p.set S.sl) w w5:=(hW.alloc (.cells #[.int .i64 y] 3)).then_ hon (fun g hg => .inr (hlow g hg));clear hown5 hg5 hown2 HI2 hon hlow MW hW hz hl;go_wp2_with fail;go_roundg g
   case measure => omega
   case rel => exact ⟨j + 1, by have:=HN.out; omega, by go_num, hown6, hM6, hO6⟩
  | zero =>
   have hjn : j = n:=by omega
   have hb3 : decide ((j : Int) < (n : Int)) = false:=by simp; omega
   rw [hb3];have hown1 : OwnsI wr w.heap.size u7 all:=by have e : all.take j = all:=take_of_length_le (by have:=HN.out; omega);rw [e] at hown; exact hown
   clear hb3 hown hj hjn hM;have hfr:=heapFree_any p.H NW (backS S s i x r v).hc (backS S s i x r v).V (backS S s i x r v).t r.b ws wr.drew M.drew.heap K6.out;have HFR:=Lib.hid hfr;have MD:=Lib.hid M.drew;have hO1 : Only (p.set S.sl) w wr.drew:=hO.trans (only_drew _ wr);have hown2 : OwnsI wr.drew w.heap.size u7 all:=hown1.only (only_drew (fun _ => False) wr) (fun _ h => h.elim);clear hfr;go_upto_region 9 with (fail);go_still_tail 11, (by kernel_rfl)
   change wpList _ _ _ _ _ wr.drew;clear M d0 r0 r1 r2 m1 m3 m4 hO hown1;generalize wr.drew = W at HFR MD hO1 hown2 ⊢;have hlow : ∀ k, p.H.set k -> k < w.heap.size:=fun k hk => HLT.out k ⟨2, hk⟩;obtain ⟨A, ca, hu, -, -, -, -⟩:=hown2.reads (fun x hx => by have:=AL4.out x hx; omega);subst hu;rw [<- HN.out] at hown2 ⊢;have hsL : s < S.L.length:=hsL0.out;have hlenL2 : (S.L.set s ⟨false, false, false⟩).length = NS + 1:=by rw [length_set]; exact HLL.out
   have HL2:=Lib.hid hlenL2;clear hlenL2;go_wp2_with fail;refine HFR.out.mono ?_;rintro e w3 ⟨rfl, hH3, hO3⟩;have M3 : LmMem w3 p N NW NS { backS S s i x r v with V:=updV (backS S s i x r v).V r.b none, t:=false }:=MD.out.toHeap hO3 p.H _ _ _ hH3 rfl (fun g hg => .inl hg);have hO3b:=hO1.trans (hO3.mono (T:=p.set S.sl) (fun k hk => ⟨2, hk⟩));have hown3:=hown2.only hO3 hlow;obtain ⟨-, -, -, c3, c4, -⟩:=M3.look2;have hin:=Ck.in_ok w3 p.c p.lb S.hand S.L s false M3.clk hsL;have HIN:=Lib.hid hin;have M3':=Lib.hid M3;have HO3:=Lib.hid hO3b;have HW3:=Lib.hid hown3;clear hin M3 hO3b hown3 hown2 hO1 hH3 hO3 HFR MD hsL;go_wp2_with fail;refine HIN.out.mono ?_;rintro e w4 ⟨rfl, hC4, hO4⟩;have M4 : LmMem w4 p N NW NS { backS S s i x r v with V:=updV (backS S s i x r v).V r.b none, t:=false, L:=S.L.set s ⟨false, false, false⟩, hand:=S.hand }:=M3'.out.toClk hO4 _ _ hC4 HL2.out;have hx4 : (St.sl { backS S s i x r v with V:=updV (backS S s i x r v).V r.b none, t:=false, L:=S.L.set s ⟨false, false, false⟩, hand:=S.hand })[s]? = some { x with res:=some { r with dirty:=false } }:=HX1.out;have M5:=M4.toGone hx4;have hO4b:=HO3.out.trans ((ck_only hO4).mono (T:=p.set S.sl) (fun k hk => ⟨4, hk⟩));have hck : ∀ k, (k = p.c \/ k = p.lb) -> k < w.heap.size:=fun k hk => HLT.out k ⟨4, hk⟩;have hown4:=HW3.out.only (ck_only hO4) hck;have hsbl : p.sb < w.heap.size:=HLT.out _ ⟨5, rfl⟩;have hO5:=hO4b.setCell (p:=⟨p.sb, s * 3, none⟩) (.inl ⟨5, rfl⟩) (.pointer none);have hown5:=hown4.only (only_sb w4 p (s * 3) (.pointer none)) (fun g h => by subst h; exact hsbl);have f4:=M4.slots.frozen (s * 3);obtain ⟨g0, -, -⟩:=M4.look hx4;have M5':=Lib.hid M5;have HO5:=Lib.hid hO5;have HW5:=Lib.hid hown5;clear M4 M5 hx4 hO4b hown4 hO5 hown5 hC4 hO4 HIN M3' HO3 HW3 c3 c4 hck;go_wp2_with fail;generalize w4.setCell ⟨p.sb, s * 3, none⟩ (.pointer none) = w5 at M5' HO5 HW5 ⊢;clear g0 f4;have HI5 : Hid (Inv NS { backS S s i x r v with V:=updV (backS S s i x r v).V r.b none, t:=false, L:=S.L.set s ⟨false, false, false⟩, hand:=S.hand, sl:=(backS S s i x r v).sl.set s { x with res:=none } } Vt (all ++ ext) (fun k => ex k \/ k = s) pend):=Lib.hid (by rw [HALL.out]; exact HEV.out);have HF5 : Hid (Fell S { backS S s i x r v with V:=updV (backS S s i x r v).V r.b none, t:=false, L:=S.L.set s ⟨false, false, false⟩, hand:=S.hand, sl:=(backS S s i x r v).sl.set s { x with res:=none } }):=Lib.hid (HF.out _ _ _);have HR5 : Hid (resOf ((backS S s i x r v).sl.set s { x with res:=none }) s = none):=Lib.hid (by rw [resOf_set _ _ _ (List.getElem?_eq_some_iff.1 HX1.out).1, if_pos rfl]);have M6 : Hid (LmMem w5 p N NW NS { backS S s i x r v with V:=updV (backS S s i x r v).V r.b none, t:=false, L:=S.L.set s ⟨false, false, false⟩, hand:=S.hand, sl:=(backS S s i x r v).sl.set s { x with res:=none } }):=M5';obtain ⟨S5, hS5⟩ : ∃ S5 : St, S5 = { backS S s i x r v with V:=updV (backS S s i x r v).V r.b none, t:=false, L:=S.L.set s ⟨false, false, false⟩, hand:=S.hand, sl:=(backS S s i x r v).sl.set s { x with res:=none } }:=⟨_, rfl⟩;have hsl5 : S5.sl = (backS S s i x r v).sl.set s { x with res:=none }:=by rw [hS5]
   have hhc5 : S5.hc = S.hc:=by rw [hS5]; rfl
   rw [<- hS5] at HI5 HF5 M6;rw [<- hsl5] at HR5;have HC5:=Lib.hid hhc5;clear hS5 hsl5 M5' HEV HF HX1 HSUB HALL hhc5;go_loopg [87] n (fun gk s87 wr => ∃ (j : Nat) (S' : St), j + gk = n /\ s87 = .int .i64 j /\ Aside (OwnsI wr w.heap.size (.slice A n ca) all) /\ Aside (LmMem wr p N NW NS S') /\ Aside (Inv NS S' Vt (all.drop j ++ ext) (fun k => ex k \/ k = s) pend) /\ Aside (Calm S5 S') /\ Aside (Only (p.set S.sl) w wr))
   case atStart => exact ⟨0, S5, by omega, rfl, HW5.out, M6.out, HI5.out, Calm.refl _, HO5.out⟩
   case round =>
    clear M6 HI5 HO5 HW5;obtain ⟨j, S', hj, rfl, hown, hM, hI, hC, hO⟩:=hrel;cases gk with
    | succ g =>
     have hjn : (j : Int) < n:=by omega
     have hjl : j < all.length:=by rw [<- HN.out]; omega
     obtain ⟨gb, cur, hA, hgB, -, hgb, hnc, hc63, hcs, hcur⟩:=hown.out.open_ (by rw [<- HN.out]; omega);subst hA;obtain ⟨y, hy⟩ : ∃ y, y = all.getD j 0:=⟨_, rfl⟩;obtain ⟨-, hlt2, hcell, -, -⟩:=hown.out.at_ hjl;rw [<- hy] at hcell;have hdr : all.drop j ++ ext = y :: (all.drop (j + 1) ++ ext):=by rw [hy, getD_eq_getElem?_getD, getElem?_eq_getElem hjl, List.drop_eq_getElem_cons hjl]; rfl
     have hI2:=hI.out;rw [hdr] at hI2;have hun:=unref_any p N NW NS y S' Vt (all.drop (j + 1) ++ ext) (fun k => ex k \/ k = s) pend wr hM.out hI2 (by have:=HN.out; rw [length_append, List.length_drop]; omega);have HUN:=Lib.hid hun;have hset:=hC.out.fell.set p;have HSET:=Lib.hid (fun k hk => HF5.out.set p k (hset k hk));have hon : ∀ k, p.set S'.sl k -> k < w.heap.size:=fun k hk => HLT.out k (HSET.out k hk);have HON:=Lib.hid hon;clear hun hI2 hdr hy hI hM hgb hnc hc63 hcs hcur hset hon;go_wp2_with fail;refine HUN.out.mono ?_;rintro e w6 ⟨rfl, S6, M6, I6, C6, O6⟩;have hown6:=hown.out.only O6 HON.out;have hO6:=hO.out.trans (O6.mono HSET.out);have HW6:=Lib.hid hown6;have HO6:=Lib.hid hO6;have HM6:=Lib.hid M6;have HI6:=Lib.hid I6;have HC6:=Lib.hid (hC.out.trans C6);clear hown6 hO6 M6 I6 C6 O6 hown hO hC hcell HUN;go_wp2_with fail;go_roundg g
     case measure => omega
     case rel => exact ⟨j + 1, S6, by omega, by go_num, HW6.out, HM6.out, HI6.out, HC6.out, HO6.out⟩
    | zero =>
     have hjn : ¬ ((j : Int) < n):=by omega
     have hI2 : Inv NS S' Vt ext (fun k => ex k \/ k = s) pend:=by have h1:=hI.out;rw [List.drop_of_length_le (by rw [<- HN.out]; omega)] at h1;exact h1
     have hl7:=hM.out.lenS;obtain ⟨x7, hx7⟩ : ∃ x7, S'.sl[s]? = some x7:=⟨_, getElem?_eq_getElem (by omega)⟩;obtain ⟨-, d1, -⟩:=hM.out.look hx7;have hres7 : ∀ S8, Calm S' S8 -> resOf S8.sl s = none:=fun S8 h8 => (h8.res s).trans ((hC.out.res s).trans HR5.out);have fin : ∀ w8 S8, LmMem w8 p N NW NS S8 -> Inv NS S8 Vt ext ex pend -> Calm S' S8 -> Only (p.set S.sl) w w8 -> EvictPost p N NW NS S Vt ext ex pend s w (.returned (.tuple #[])) w8:=fun w8 S8 m8 i8 c8 o8 => ⟨rfl, S8, m8, i8, HF5.out.trans (hC.out.trans c8).fell, hres7 S8 c8, (hC.out.trans c8).hc.trans HC5.out, o8⟩;have FIN:=Lib.hid fin;have hset:=hC.out.fell.set p;have HSET:=Lib.hid (fun k hk => HF5.out.set p k (hset k hk));by_cases h0 : x7.id = 0
     ·have i8:=hI2.keep hx7 (.inr (.inr (.inr h0)));have f8:=FIN.out wr S' hM.out i8 (Calm.refl _) hO.out;have F8:=Lib.hid f8;rw [h0] at d1;clear f8 i8 FIN fin hres7 hx7 h0 hI2 hI hM hC hO hown HSET hset hl7;go_wp2_with fail;go_end0
      exact F8.out
     ·have hlo:=loose_any p N NW NS s S' Vt ext ex pend x7 wr hM.out hI2 hs1 hx7 h0;have HLO:=Lib.hid hlo;obtain ⟨z, hz⟩ : ∃ z, z = x7.id:=⟨_, rfl⟩;rw [<- hz] at d1 h0;have h00 : (z != 0) = true:=by simpa using h0
      clear hlo fin hres7 hx7 hI2 hI hM hC hown hset hl7 hz h0;go_wp2_with fail;refine HLO.out.mono ?_;rintro e w8 ⟨rfl, S8, m8, i8, c8, o8⟩;have f8:=FIN.out w8 S8 m8 i8 c8 (hO.out.trans (o8.mono HSET.out));have F8:=Lib.hid f8;clear f8 m8 i8 c8 o8 FIN HLO hO HSET d1;go_wp2_with fail;go_end0
      exact F8.out
namespace Ck
def Pl.op (x : Pl) : Bool:=x.i && !x.p
def opens (L : List Pl) : Nat:=L.countP Pl.op
theorem countP_set {α : Type} (f : α -> Bool) (L : List α) (i : Nat) (x y : α) (h : L[i]? = some x) : (L.set i y).countP f + (if f x then 1 else 0) = L.countP f + (if f y then 1 else 0):=by
 induction L generalizing i with
 | nil => simp at h
 | cons z L ih =>
  cases i with
  | zero => simp at h; subst h; simp only [List.set_cons_zero, List.countP_cons]; omega
  | succ i => simp at h;have:=ih i h;simp only [List.set_cons_succ, List.countP_cons];omega
theorem opens_touch (L : List Pl) (i : Nat) (x : Pl) (b : Bool) (h : L[i]? = some x) : opens (L.set i { x with t:=b }) = opens L:=by have:=countP_set Pl.op L i x { x with t:=b } h;have e : Pl.op { x with t:=b } = x.op:=rfl;rw [e] at this;unfold opens;omega
theorem vic_keeps (f : Nat) : ∀ (L : List Pl) (h : Nat), h < L.length -> (vic f L h).1.length = L.length /\ (vic f L h).2.1 < L.length /\ opens (vic f L h).1 = opens L /\
  ∀ v, (vic f L h).2.2 = some v -> v < L.length /\ (vic f L h).1[v]? = some ⟨true, false, false⟩:=by
 induction f with
 | zero => intro L h hh; exact ⟨rfl, hh, rfl, fun v hv => by cases hv⟩
 | succ f ih =>
  intro L h hh;have hm : (h + 1) % L.length < L.length:=Nat.mod_lt _ (by omega);obtain ⟨x, hx⟩ : ∃ x, L[h]? = some x:=⟨_, getElem?_eq_getElem hh⟩;rw [vic, hx];simp only;split
  ·split
   ·have h2:=ih (L.set h { x with t:=false }) ((h + 1) % L.length) (by simpa using hm);simp only [length_set] at h2;exact ⟨h2.1, h2.2.1, h2.2.2.1.trans (opens_touch L h x false hx), h2.2.2.2⟩
   ·rename_i h1 h2
    refine ⟨rfl, hm, rfl, fun v hv => ?_⟩;injection hv with hv;subst hv;refine ⟨hh, ?_⟩;rw [hx];obtain ⟨i, t, p⟩:=x;simp at h1 h2;rw [h1.1, h1.2, h2]
  ·exact ih L _ hm
theorem vic_nobody (f : Nat) : ∀ (L : List Pl) (h : Nat), opens L = 0 -> (vic f L h).2.2 = none:=by
 induction f with
 | zero => intro L h _; rfl
 | succ f ih =>
  intro L h ho;rw [vic];cases hx : L[h]? with
  | none => rfl
  | some x =>
   have hno : (x.i && !x.p) = false:=by
    have:=List.countP_eq_zero.1 ho x (mem_of_getElem? hx)
    simpa [Pl.op, opens] using this
   simp only [hno];exact ih L _ ho
theorem next_mod (h d n : Nat) : ((h + 1) % n + d) % n = (h + (d + 1)) % n:=by rw [Nat.mod_add_mod]; congr 1; omega
theorem far_mod (h d n : Nat) (hh : h < n) (hd : d + 1 < n) : (h + (d + 1)) % n ≠ h:=by
 intro e;rcases Nat.lt_or_ge (h + (d + 1)) n with h1 | h1
 ·rw [Nat.mod_eq_of_lt h1] at e; omega
 ·rw [Nat.mod_eq_sub_mod h1, Nat.mod_eq_of_lt (by omega)] at e; omega
theorem vic_finds2 : ∀ (d f : Nat) (L : List Pl) (h : Nat), h < L.length -> d < L.length -> d < f -> L[(h + d) % L.length]? = some ⟨true, false, false⟩ -> ∃ v, (vic f L h).2.2 = some v:=by
 intro d
 induction d with
 | zero => intro f L h hh _ hf hx;obtain ⟨f, rfl⟩ : ∃ f', f = f' + 1:=⟨f - 1, by omega⟩;rw [Nat.add_zero, Nat.mod_eq_of_lt hh] at hx;exact ⟨h, by rw [vic, hx]; rfl⟩
 | succ d ih =>
  intro f L h hh hd hf hx;obtain ⟨f, rfl⟩ : ∃ f', f = f' + 1:=⟨f - 1, by omega⟩;have hm : (h + 1) % L.length < L.length:=Nat.mod_lt _ (by omega);obtain ⟨x, hxh⟩ : ∃ x, L[h]? = some x:=⟨_, getElem?_eq_getElem hh⟩;rw [vic, hxh];simp only;split
  ·split
   ·refine ih f _ _ (by simpa using hm) (by simpa using by omega) (by omega) ?_;rw [length_set, next_mod, List.getElem?_set_ne (Ne.symm (far_mod h d _ hh hd))];exact hx
   ·exact ⟨h, rfl⟩
  ·exact ih f L _ hm (by omega) (by omega) (by rw [next_mod]; exact hx)
theorem vic_finds1 : ∀ (d f : Nat) (L : List Pl) (h : Nat) (x : Pl), h < L.length -> d < L.length -> L.length + d < f -> L[(h + d) % L.length]? = some x -> x.op = true -> ∃ v, (vic f L h).2.2 = some v:=by
 intro d
 induction d with
 | zero =>
  intro f L h x hh _ hf hx ho;obtain ⟨f, rfl⟩ : ∃ f', f = f' + 1:=⟨f - 1, by omega⟩;have hm : (h + 1) % L.length < L.length:=Nat.mod_lt _ (by omega);rw [Nat.add_zero, Nat.mod_eq_of_lt hh] at hx;have ho' : (x.i && !x.p) = true:=ho;rw [vic, hx];simp only [ho', if_true];split
  ·refine vic_finds2 (L.length - 1) f _ _ (by simpa using hm) (by simpa using by omega) (by omega) ?_;have e : h + (L.length - 1 + 1) = h + L.length:=by omega
   rw [length_set, next_mod, e, Nat.add_mod_right, Nat.mod_eq_of_lt hh, List.getElem?_set_self hh];obtain ⟨i, t, p⟩:=x;simp at ho';rw [ho'.1, ho'.2]
  ·exact ⟨h, rfl⟩
 | succ d ih =>
  intro f L h x hh hd hf hx ho;obtain ⟨f, rfl⟩ : ∃ f', f = f' + 1:=⟨f - 1, by omega⟩;have hm : (h + 1) % L.length < L.length:=Nat.mod_lt _ (by omega);obtain ⟨y, hy⟩ : ∃ y, L[h]? = some y:=⟨_, getElem?_eq_getElem hh⟩;rw [vic, hy];simp only;split
  ·split
   ·refine ih f _ _ x (by simpa using hm) (by simpa using by omega) (by simpa using by omega) ?_ ho;rw [length_set, next_mod, List.getElem?_set_ne (Ne.symm (far_mod h d _ hh hd))];exact hx
   ·exact ⟨h, rfl⟩
  ·exact ih f L _ x hm (by omega) (by omega) (by rw [next_mod]; exact hx) ho
theorem vic_some (L : List Pl) (h : Nat) (hh : h < L.length) (ho : 0 < opens L) : ∃ v L' h', vic (2 * L.length) L h = (L', h', some v) /\ v < L.length /\ L'[v]? = some ⟨true, false, false⟩ /\ h' < L.length /\ L'.length = L.length /\ opens L' = opens L:=by
 obtain ⟨x, hx, hxo⟩:=List.countP_pos_iff.1 ho;obtain ⟨j, hj⟩:=List.getElem?_of_mem hx;have hjl:=(List.getElem?_eq_some_iff.1 hj).1;have hf : ∃ v, (vic (2 * L.length) L h).2.2 = some v:=by
  by_cases e : h <= j
  ·refine vic_finds1 (j - h) _ L h x hh (by omega) (by omega) ?_ hxo;rw [show h + (j - h) = j from by omega, Nat.mod_eq_of_lt hjl];exact hj
  ·refine vic_finds1 (j + L.length - h) _ L h x hh (by omega) (by omega) ?_ hxo;rw [show h + (j + L.length - h) = j + L.length from by omega, Nat.add_mod_right, Nat.mod_eq_of_lt hjl];exact hj
 obtain ⟨v, hv⟩:=hf;obtain ⟨h1, h2, h3, h4⟩:=vic_keeps (2 * L.length) L h hh;obtain ⟨h5, h6⟩:=h4 v hv;exact ⟨v, _, _, by rw [<- hv], h5, h6, h2, h1, h3⟩
theorem opens_out (L : List Pl) (v : Nat) (h : L[v]? = some ⟨true, false, false⟩) : opens (L.set v ⟨false, false, false⟩) + 1 = opens L:=by
 have:=countP_set Pl.op L v _ ⟨false, false, false⟩ h
 simpa [Pl.op, opens] using this
end Ck
end Go.Proofs.YtgaemfghpibeeaaGreatDoor
namespace Go.Proofs.YtgaemfghpibeeaaGreatDoor
open Go.RowKit
theorem vic_same (f : Nat) : ∀ (L : List Ck.Pl) (h : Nat), h < L.length -> ∀ (s : Nat) (pl : Ck.Pl), (Ck.vic f L h).1[s]? = some pl -> ∃ pl0, L[s]? = some pl0 /\ pl.i = pl0.i /\ pl.p = pl0.p:=by
 induction f with
 | zero => intro L h _ s pl hp; exact ⟨pl, hp, rfl, rfl⟩
 | succ f ih =>
  intro L h hh s pl hp;have hm : (h + 1) % L.length < L.length:=Nat.mod_lt _ (by omega);obtain ⟨x, hx⟩ : ∃ x, L[h]? = some x:=⟨_, getElem?_eq_getElem hh⟩;rw [Ck.vic, hx] at hp;simp only at hp;split at hp
  ·split at hp
   ·obtain ⟨pl0, h1, h2, h3⟩:=ih (L.set h { x with t:=false }) ((h + 1) % L.length) (by simpa using hm) s pl hp;rw [List.getElem?_set] at h1;by_cases e : h = s
    ·subst e;rw [if_pos rfl, if_pos hh] at h1;cases h1
     exact ⟨x, hx, h2, h3⟩
    ·rw [if_neg e] at h1;exact ⟨pl0, h1, h2, h3⟩
   ·exact ⟨pl, hp, rfl, rfl⟩
  ·exact ih L _ hm s pl hp
section
variable {NS : Nat} {S : St} {Vt : List Ob} {ext : List Int} {ex pend : Nat -> Prop}
theorem Inv.victim (h : Inv NS S Vt ext ex pend) (hL : S.L.length = NS + 1) {r : List Ck.Pl × Nat × Option Nat} (hr : r = Ck.vic (2 * S.L.length) S.L S.hand) :
  r.1.length = NS + 1 /\ Inv NS { S with L:=r.1, hand:=r.2.1 } Vt ext ex pend /\ (∀ s, r.2.2 = some s -> ∃ x q, S.sl[s]? = some x /\ x.res = some q) /\ (r.2.2 = none -> ∀ s, resOf S.sl s = none):=by
 subst hr;obtain ⟨h1, h2, h3, h4⟩:=Ck.vic_keeps (2 * S.L.length) S.L S.hand h.hand;have h5:=vic_same (2 * S.L.length) S.L S.hand h.hand;refine ⟨h1.trans hL, h.ticks _ _ (by rw [h1]; exact h2) h5, fun s hs => ?_, fun hn s => ?_⟩
 ·obtain ⟨h6, h7⟩:=h4 s hs;obtain ⟨pl0, h8, h9, _⟩:=h5 s _ h7;have hsl : s < S.sl.length:=by rw [h.lenS, <- hL]; exact h6
  obtain ⟨x, hx⟩ : ∃ x, S.sl[s]? = some x:=⟨_, getElem?_eq_getElem hsl⟩;have h10:=(h.clock s x pl0 hx h8).1;rw [<- h9] at h10;cases hq : x.res with
  | none => rw [hq] at h10; cases h10
  | some q => exact ⟨x, q, hx, hq⟩
 ·cases hq : resOf S.sl s with
  | none => rfl
  | some q =>
   exfalso;obtain ⟨x, hx, hxr⟩:=resOf_some hq;have hsl:=(List.getElem?_eq_some_iff.1 hx).1;obtain ⟨pl, hp⟩ : ∃ pl, S.L[s]? = some pl:=⟨_, getElem?_eq_getElem (by rw [hL, <- h.lenS]; exact hsl)⟩;obtain ⟨e1, e2⟩:=h.clock s x pl hx hp;rw [hxr] at e1;have ho : 0 < Ck.opens S.L:=by refine List.countP_pos_iff.2 ⟨pl, mem_of_getElem? hp, ?_⟩;unfold Ck.Pl.op;rw [e1, e2];rfl
   obtain ⟨v, L', h', e, _⟩:=Ck.vic_some S.L S.hand h.hand ho;rw [e] at hn;cases hn
theorem blocks_few {sl : List Slt} (N : Nat) : ∀ c, (∀ j, j < c -> ∃ s r, s < N /\ resOf sl s = some r /\ r.b = j) -> c <= N:=by
 intro c h;have key : ∀ c, (∀ j, j < c -> ∃ s r, s < N /\ resOf sl s = some r /\ r.b = j) -> ∃ l : List Nat, l.Nodup /\ l.length = c /\ ∀ x ∈ l, x < N /\ ∃ r, resOf sl x = some r /\ r.b < c:=by
  intro c
  induction c with
  | zero => intro _; exact ⟨[], List.nodup_nil, rfl, fun x hx => by cases hx⟩
  | succ c ih =>
   intro h;obtain ⟨l, h1, h2, h3⟩:=ih (fun j hj => h j (by omega));obtain ⟨s, r, h4, h5, h6⟩:=h c (by omega);refine ⟨s :: l, List.nodup_cons.2 ⟨fun hm => ?_, h1⟩, by simp [h2], fun x hx => ?_⟩
   ·obtain ⟨_, r2, h7, h8⟩:=h3 s hm;rw [h5] at h7;cases h7
    omega
   ·rcases List.mem_cons.1 hx with e | e
    ·rw [e]; exact ⟨h4, r, h5, by omega⟩
    ·obtain ⟨h7, r2, h8, h9⟩:=h3 x e;exact ⟨h7, r2, h8, by omega⟩
 obtain ⟨l, h1, h2, h3⟩:=key c h;have:=nodup_le N l h1 (fun x hx => (h3 x hx).1);omega
theorem Inv.full (h : Inv NS S Vt ext ex (fun _ => False)) (hall : ∀ j, j < S.hc -> S.V j ≠ none) : S.hc <= NS + 1:=by
 refine blocks_few (sl:=S.sl) (NS + 1) S.hc (fun j hj => ?_);cases hV : S.V j with
 | none => exact absurd hV (hall j hj)
 | some ws =>
  rcases h.held j ws hV with h1 | ⟨s, r, h1, h2⟩
  ·exact h1.elim
  ·obtain ⟨x, hx, _⟩:=resOf_some h1;exact ⟨s, r, by have:=(List.getElem?_eq_some_iff.1 hx).1; rw [h.lenS] at this; exact this, h1, h2⟩
theorem Inv.weak (h : Inv NS S Vt ext ex pend) (ex' : Nat -> Prop) (hex : ∀ k, ex k -> ex' k) : Inv NS S Vt ext ex' pend:={ h with used:=fun s x hx hs h0 hne => h.used s x hx hs h0 (fun e => hne (hex s e)) }
end
structure Step (p : LmP) (S : St) (w : World) (p' : LmP) (S' : St) (w' : World) : Prop where
 m : p'.m = p.m
 sub : ∀ k, p'.set S'.sl k -> p.set S.sl k \/ w.heap.size <= k
 only : Only (p.set S.sl) w w'
theorem Step.trans {p p' p'' : LmP} {S S' S'' : St} {w w' w'' : World} (h : Step p S w p' S' w') (k : Step p' S' w' p'' S'' w'') : Step p S w p'' S'' w'':=by
 refine ⟨k.m.trans h.m, fun g hg => ?_, h.only.then_ k.only h.sub⟩;rcases k.sub g hg with h1 | h1
 ·exact h.sub g h1
 ·exact .inr (Nat.le_trans h.only.size h1)
theorem Step.of_fell {p : LmP} {S S' : St} {w w' : World} (h : Fell S S') (ho : Only (p.set S.sl) w w') : Step p S w p S' w':=⟨rfl, fun k hk => .inl (h.set p k hk), ho⟩
end Go.Proofs.YtgaemfghpibeeaaGreatDoor
namespace Go.Proofs.YtgaemfghpibeeaaGreatDoor
open Go.RowKit
def SweepPost (p : LmP) (N NW NS : Nat) (S : St) (Vt : List Ob) (ext : List Int) (ex pend : Nat -> Prop) (w : World) (e : Ending) (w' : World) : Prop :=
 ∃ (n : Nat) (S' : St), e = .returned (.int .i64 n) /\ n <= 1 /\ LmMem w' p N NW NS S' /\ Inv NS S' Vt ext ex pend /\ Fell S S' /\ S'.hc = S.hc /\ Only (p.set S.sl) w w' /\ (n = 0 -> ∀ s, resOf S'.sl s = none) /\ (n = 1 -> nresTo S'.sl (NS + 1) < nresTo S.sl (NS + 1))
theorem sweep_any (p : LmP) (N NW NS : Nat) (S : St) (Vt : List Ob) (ext : List Int) (ex pend : Nat -> Prop) (w : World) (h : LmMem w p N NW NS S) (hI : Inv NS S Vt ext ex pend) (hext : ext.length <= 1000) :
  Calls Tryz.prog 197 #[.pointer (some ⟨p.m, 0, none⟩), .int .i64 1] w (SweepPost p N NW NS S Vt ext ex pend w):=by
 obtain ⟨-, -, -, m3, -, -⟩:=h.look2;obtain ⟨r, hr⟩ : ∃ r, r = Ck.vic (2 * S.L.length) S.L S.hand:=⟨_, rfl⟩;have hv:=Ck.victim_any w p.c p.lb S.hand S.L h.clk (.inl hI.hand);rw [<- hr] at hv;obtain ⟨v1, v2, v3, v4⟩:=hI.victim h.lenL hr;have HV:=hid hv;have H:=hid h;have V1:=hid v1;have V2:=hid v2;have V3:=hid v3;have V4:=hid v4;clear h hI hv v1 v2 v3 v4 hr;obtain ⟨L', hd, o⟩:=r;have hset : ∀ k, (k = p.c \/ k = p.lb) -> p.set S.sl k:=fun k hk => ⟨4, hk⟩;have HSET:=hid hset;clear hset;have fell : Fell S { S with L:=L', hand:=hd }:=⟨rfl, fun s x hx => ⟨x, hx, .inl rfl, .inr rfl⟩⟩;have FELL:=hid fell;clear fell;go_enter Tryz.func197, Tryz.ntmps197;go_wp2_with fail;go_step3
 go_wp2_with fail;go_step3
 go_wp2_with fail;go_loopg [5] 1 (fun gk s5 wr => (gk = 1 /\ s5 = .int .i64 0 /\ w = wr) \/ (gk = 0 /\ s5 = .int .i64 1 /\ Aside (∃ S', LmMem wr p N NW NS S' /\ Inv NS S' Vt ext ex pend /\ Fell S S' /\ S'.hc = S.hc /\ Only (p.set S.sl) w wr /\ nresTo S'.sl (NS + 1) < nresTo S.sl (NS + 1))))
 case atStart => exact .inl ⟨rfl, rfl, rfl⟩
 case round =>
  rcases hrel with ⟨rfl, rfl, rfl⟩ | ⟨rfl, rfl, hA⟩
  ·cases o with
   | none => go_wp2_with fail;refine HV.out.mono ?_;rintro e w2 ⟨rfl, hC, hO⟩;have M2:=H.out.toClk hO _ _ hC V1.out;have fin : SweepPost p N NW NS S Vt ext ex pend w (.returned (.int .i64 0)) w2:=⟨0, _, rfl, by omega, M2, V2.out, FELL.out, rfl, (ck_only hO).mono HSET.out, fun _ => V4.out (by trivial), fun e => by cases e⟩;have FIN:=hid fin;clear fin M2 hC hO HV H V1 V2 V3 V4 FELL m3;dsimp only [Ck.vicV];go_wp2_with fail;go_ret;exact FIN.out
   | some s =>
    obtain ⟨x, q, hx, hq⟩:=V3.out s (by trivial);go_wp2_with fail;refine HV.out.mono ?_;rintro e w2 ⟨rfl, hC, hO⟩;have M2 : LmMem w2 p N NW NS { S with L:=L', hand:=hd }:=H.out.toClk hO _ _ hC V1.out;have hO2:=(ck_only hO).mono HSET.out;have hev:=evict_any p N NW NS s { S with L:=L', hand:=hd } Vt ext ex pend x q w2 M2 V2.out hx hq hext;have HEV:=hid hev;have HQ : Hid (resOf S.sl s = some q):=hid ((resOf_of hx).trans hq);have HO2:=hid hO2;have hlS:=H.out.lenS;have hsl:=(List.getElem?_eq_some_iff.1 hx).1;have HSL : Hid (s < NS + 1):=hid (by omega);clear hev hO2 M2 hx hq hC hO HV H V1 V2 V3 V4 m3 hlS hsl;dsimp only [Ck.vicV];go_wp2_with fail;refine HEV.out.mono ?_;rintro e w3 ⟨rfl, S', M3, I3, F3, R3, C3, O3⟩;have fell2:=FELL.out.trans F3;have fin : Aside (∃ S', LmMem w3 p N NW NS S' /\ Inv NS S' Vt ext ex pend /\ Fell S S' /\ S'.hc = S.hc /\ Only (p.set S.sl) w w3 /\ nresTo S'.sl (NS + 1) < nresTo S.sl (NS + 1)) :=
     ⟨S', M3, I3, fell2, C3, HO2.out.trans O3, nresTo_lt (fun s r h => fell2.res h) HQ.out R3 _ HSL.out⟩
    have FIN:=hid fin;clear fin fell2 M3 I3 F3 R3 C3 O3 HEV HO2 HQ HSL FELL;go_wp2_with fail;go_roundg 0
    case measure => omega
    case rel => exact .inr ⟨rfl, rfl, FIN.out⟩
  ·clear m3 HV H V1 V2 V3 V4 FELL;have fin : SweepPost p N NW NS S Vt ext ex pend w (.returned (.int .i64 1)) wr:=by obtain ⟨S', m1, i1, f1, c1, o1, l1⟩:=hA;exact ⟨1, S', rfl, by omega, m1, i1, f1, c1, o1, (fun e => by cases e), fun _ => l1⟩
   have FIN:=hid fin;clear fin hA;go_wp2_with fail;go_ret;exact FIN.out
end Go.Proofs.YtgaemfghpibeeaaGreatDoor
namespace Go.Proofs.YtgaemfghpibeeaaGreatDoor
open Go.RowKit
structure Named (S S' : St) (s : Nat) (id : Int) : Prop where
 D : S'.D = S.D
 hc : S'.hc = S.hc
 V : S'.V = S.V
 t : S'.t = S.t
 L : S'.L = S.L
 hand : S'.hand = S.hand
 busy : S'.busy = S.busy
 ids : S'.ids = S.ids.set s id
 at_ : ∃ x, S.sl[s]? = some x /\ S'.sl = S.sl.set s { x with id:=id } /\ (x.id = id \/ (x.id = 0 /\ x.res = none /\ x.refs = 0))
theorem Named.res {S S' : St} {s : Nat} {id : Int} (h : Named S S' s id) (s2 : Nat) : resOf S'.sl s2 = resOf S.sl s2:=by obtain ⟨x, hx, e, _⟩:=h.at_;rw [e];exact resOf_same (x':={ x with id:=id }) hx rfl s2
theorem Named.set {S S' : St} {s : Nat} {id : Int} (h : Named S S' s id) (p : LmP) : ∀ k, p.set S'.sl k -> p.set S.sl k:=part_sub (fun s2 r hr => by rw [<- h.res]; exact hr) p
section
variable {NS : Nat} {S : St} {Vt : List Ob} {ext : List Int} {ex pend : Nat -> Prop}
theorem ids_set_same {l : List Int} {s : Nat} {v : Int} (h : l.getD s 0 = v) (hl : s < l.length) : l.set s v = l:=by refine set_same ?_;rw [getElem?_eq_getElem hl];rw [getD_eq_getElem?_getD, getElem?_eq_getElem hl] at h;exact congrArg some h
end
def BindPost (quiet : Bool) (p : LmP) (N NW NS : Nat) (S : St) (Vt : List Ob) (ext : List Int) (ex pend : Nat -> Prop) (id : Int) (w : World) (e : Ending) (w' : World) : Prop :=
 (e = .returned (.tuple #[.int .i64 0, .bool false]) /\ ∃ S', LmMem w' p N NW NS S' /\ Inv NS S' Vt ext ex pend /\ Fell S S' /\ S'.hc = S.hc /\ Only (p.set S.sl) w w' /\ (quiet = true -> S' = S)) \/
 ∃ (s : Nat) (S1 S' : St), e = .returned (.tuple #[.int .i64 s, .bool true]) /\ 1 <= s /\ s <= NS /\ LmMem w' p N NW NS S' /\ Inv NS S' Vt ext (fun k => ex k \/ k = s) pend /\ Fell S S1 /\ S1.hc = S.hc /\ (quiet = true -> S1 = S) /\ Named S1 S' s id /\ Only (p.set S.sl) w w'
theorem bind_any (quiet : Bool) (p : LmP) (N NW NS : Nat) (S : St) (Vt : List Ob) (ext : List Int) (ex pend : Nat -> Prop) (id : Int) (w : World) (h : LmMem w p N NW NS S) (hI : Inv NS S Vt ext ex pend) (hext : ext.length <= 1000) (hid : 1 <= id /\ id < 1073741824) :
  Calls Tryz.prog 185 #[.pointer (some ⟨p.m, 0, none⟩), .int .i64 id, .bool quiet] w (BindPost quiet p N NW NS S Vt ext ex pend id w):=by
 have HL:=Lib.hid h.lt;have NSs:=h.small;obtain ⟨hd1, hd2⟩:=hid;go_enter Tryz.func185, Tryz.ntmps185;go_wp2_with fail;go_loopg [11] (nresTo S.sl (NS + 1)) (fun gk _ wr => ∃ S1, Aside (LmMem wr p N NW NS S1) /\ Aside (Inv NS S1 Vt ext ex pend) /\ Aside (Fell S S1) /\ Aside (S1.hc = S.hc) /\ Aside (quiet = true -> S1 = S) /\ Aside (Only (p.set S.sl) w wr) /\ nresTo S1.sl (NS + 1) <= gk)
 case atStart => exact ⟨S, h, hI, Fell.refl _, rfl, fun _ => rfl, Only.refl _ _, Nat.le_refl _⟩
 case round =>
  clear h hI;obtain ⟨S1, hM, hI, hF, hHC, hQ, hO, hle⟩:=hrel;obtain ⟨-, -, m2, -, m4, -⟩:=hM.out.look2;obtain ⟨hash, hn, hi⟩:=hM.out.names;have HN:=Lib.hid hn;have HI:=Lib.hid hi;clear hn hi;by_cases hb : ∃ s, 1 <= s /\ s <= NS /\ S1.ids.getD s 0 = id
  ·obtain ⟨s, s1, s2, hs⟩:=hb;have hlS:=hM.out.lenS;obtain ⟨x, hx⟩ : ∃ x, S1.sl[s]? = some x:=⟨_, getElem?_eq_getElem (by omega)⟩;have hxi : x.id = id:=(hI.out.ids s x hx).trans hs;have hbd:=bind_bound p.T NS S1.ids hash id s wr HN.out HI.out (by omega) ⟨hd1, hd2⟩ s1 s2 hs;have hto:=hM.out.toId hx id;have hsl : S1.sl.set s { x with id:=id } = S1.sl:=set_same (by rw [hx]; cases x; simp only at hxi; rw [hxi]);rw [hsl] at hto;have nm : Named S1 S1 s id:=⟨rfl, rfl, rfl, rfl, rfl, rfl, rfl, (ids_set_same hs (by rw [hM.out.lenI]; omega)).symm, x, hx, hsl.symm, .inl hxi⟩;have f1:=hM.out.slots.frozen (s * 3 + 1);obtain ⟨-, d1, -⟩:=hM.out.look hx;have fin : BindPost quiet p N NW NS S Vt ext ex pend id w (.returned (.tuple #[.int .i64 s, .bool true])) (wr.setCell ⟨p.sb, s * 3 + 1, none⟩ (.int .i64 id)) :=
    .inr ⟨s, S1, S1, rfl, s1, s2, hto, hI.out.weak _ (fun k hk => .inl hk), hF.out, hHC.out, hQ.out, nm, hO.out.setCell (p:=⟨p.sb, s * 3 + 1, none⟩) (.inl ⟨5, rfl⟩) _⟩
   have FIN:=Lib.hid fin;have HBD:=Lib.hid hbd;have hsN : s < NS + 1:=by omega
   clear fin hbd hto hsl nm hx hxi hs hM hI hF hHC hQ hO HN HI hle hlS;go_wp2_with fail;refine HBD.out.mono ?_;rintro e w2 ⟨rfl, rfl⟩;go_wp2_with fail;go_ret2;exact FIN.out
  ·have hno : ∀ s, 1 <= s -> s <= NS -> S1.ids.getD s 0 ≠ id:=fun s s1 s2 e => hb ⟨s, s1, s2, e⟩;clear hb;cases hfr : freeM S1.ids with
   | some i =>
    have hlS:=hM.out.lenS;obtain ⟨i1, i2⟩:=freeM_some hM.out.lenI hfr;obtain ⟨x, hx⟩ : ∃ x, S1.sl[i + 1]? = some x:=⟨_, getElem?_eq_getElem (by omega)⟩;have hx0 : x.id = 0:=(hI.out.ids _ x hx).trans i2;obtain ⟨hxr, hxn⟩:=hI.out.named _ x hx (by omega) hx0;have hbd:=bind_new p.T NS S1.ids hash id i wr HN.out HI.out (by omega) ⟨hd1, hd2⟩ hno hfr;have hli : i + 1 < S1.ids.length:=by rw [hM.out.lenI]; omega
    have hinv:=hI.out.setId (s:=i + 1) (by omega) hx hxr hxn hli id (fun k => ex k \/ k = i + 1) (.inr ⟨hd1, hd2, .inr rfl⟩) (fun k _ hk => .inl hk);have nm : Named S1 { S1 with ids:=S1.ids.set (i + 1) id, sl:=S1.sl.set (i + 1) { x with id:=id } } (i + 1) id:=⟨rfl, rfl, rfl, rfl, rfl, rfl, rfl, rfl, x, hx, rfl, .inr ⟨hx0, hxr, hxn⟩⟩;have HINV:=Lib.hid hinv;have NM:=Lib.hid nm;have HBD:=Lib.hid hbd;have HX:=Lib.hid hx;obtain ⟨s, hs⟩ : ∃ s, s = i + 1:=⟨_, rfl⟩;have hsi : ((i : Int) + 1) = (s : Int):=by omega
    rw [hsi] at HBD;rw [<- hs] at HINV NM HBD HX;have hs1 : 1 <= s:=by omega
    have hsN : s < NS + 1:=by omega
    clear hs hsi hinv nm hbd hx hx0 hxr hxn i1 i2 hfr hno hli hle hlS i;go_wp2_with fail;refine HBD.out.mono ?_;rintro e w2 ⟨rfl, ⟨hash', hn2, hi2⟩, ho2⟩;have M2:=hM.out.toNames ho2 _ hash' hn2 hi2;have M3:=M2.toId HX.out id;have f1:=M2.slots.frozen (s * 3 + 1);obtain ⟨-, d1, -⟩:=M2.look HX.out;obtain ⟨-, -, -, -, m4', -⟩:=M2.look2;have hset : ∀ k, p.T.set k -> p.set S.sl k:=fun k hk => ⟨3, hk⟩;have fin : BindPost quiet p N NW NS S Vt ext ex pend id w (.returned (.tuple #[.int .i64 s, .bool true])) (w2.setCell ⟨p.sb, s * 3 + 1, none⟩ (.int .i64 id)) :=
     .inr ⟨s, S1, _, rfl, hs1, by omega, M3, HINV.out, hF.out, hHC.out, hQ.out, NM.out, (hO.out.trans (ho2.mono hset)).setCell (p:=⟨p.sb, s * 3 + 1, none⟩) (.inl ⟨5, rfl⟩) _⟩
    have FIN:=Lib.hid fin;clear fin M2 M3 hset hn2 hi2 ho2 HINV NM HBD HX hM hI hF hHC hQ hO HN HI m2 m4;go_wp2_with fail;go_ret2;exact FIN.out
   | none =>
    have hbd:=bind_full p.T NS S1.ids hash id wr HN.out HI.out (by omega) ⟨hd1, hd2⟩ hno hfr;have HBD:=Lib.hid hbd;have fin : quiet = true -> BindPost quiet p N NW NS S Vt ext ex pend id w (.returned (.tuple #[.int .i64 0, .bool false])) wr :=
     fun e => .inl ⟨rfl, S1, hM.out, hI.out, hF.out, hHC.out, hO.out, hQ.out⟩
    have FIN:=Lib.hid fin;clear hbd hno hfr HN HI fin;cases quiet with
    | true => clear hM hI hF hHC hQ hO hle m4;go_wp2_with fail;refine HBD.out.mono ?_;rintro e w2 ⟨rfl, rfl⟩;go_wp2_with fail;go_ret2;exact FIN.out (by trivial)
    | false =>
     have hsw:=sweep_any p N NW NS S1 Vt ext ex pend wr hM.out hI.out hext;have HSW:=Lib.hid hsw;clear hsw FIN m4;go_wp2_with fail;refine HBD.out.mono ?_;rintro e w2 ⟨rfl, rfl⟩;go_wp2_with fail;refine HSW.out.mono ?_;rintro e w3 ⟨n, S2, rfl, hn1, M2, I2, F2, C2, O2, z2, l2⟩;have F3:=hF.out.trans F2;have O3:=hO.out.trans (O2.mono (hF.out.set p));have C3:=C2.trans hHC.out;have F3':=Lib.hid F3;have O3':=Lib.hid O3;have C3':=Lib.hid C3;have M2':=Lib.hid M2;have I2':=Lib.hid I2;clear F3 O3 C3 M2 I2 F2 C2 O2 z2 HSW HBD hM hI hF hHC hQ hO m2;have hnn : n = 0 \/ n = 1:=by omega
     clear hn1;rcases hnn with rfl | rfl
     ·clear l2;have fin : BindPost false p N NW NS S Vt ext ex pend id w (.returned (.tuple #[.int .i64 0, .bool false])) w3 :=
       .inl ⟨rfl, S2, M2'.out, I2'.out, F3'.out, C3'.out, O3'.out, fun e => by cases e⟩
      have FIN:=Lib.hid fin;clear fin M2' I2' F3' C3' O3';go_wp2_with fail;go_ret2;exact FIN.out
     ·have l3:=l2 rfl;clear l2;cases gk with
      | zero => omega
      | succ g =>
       go_wp2_with fail;go_roundg g
       case measure => omega
       case rel => exact ⟨S2, M2'.out, I2'.out, F3'.out, C3'.out, (fun e => by cases e), O3'.out, by omega⟩
end Go.Proofs.YtgaemfghpibeeaaGreatDoor
namespace Go.Proofs.YtgaemfghpibeeaaGreatDoor
open Go.RowKit
theorem least_nat {p : Nat -> Prop} (h : ∃ n, p n) : ∃ n, p n /\ ∀ m, p m -> n <= m:=by
 obtain ⟨n, hn⟩:=h
 induction n using Nat.strongRecOn with
 | _ n ih =>
  by_cases h2 : ∃ m, m < n /\ p m
  ·obtain ⟨m, h3, h4⟩:=h2;exact ih m h3 h4
  ·exact ⟨n, hn, fun m hm => Nat.le_of_not_lt (fun hlt => h2 ⟨m, hlt, hm⟩)⟩
open Classical in
noncomputable def leastN (p : Nat -> Prop) : Nat:=if h : ∃ n, p n then Classical.choose (least_nat h) else 0
theorem leastN_of {p : Nat -> Prop} (h : ∃ n, p n) : p (leastN p) /\ ∀ m, p m -> leastN p <= m:=by unfold leastN;rw [dif_pos h];exact Classical.choose_spec (least_nat h)
theorem wp_scope_label {P : Program} {a : Act} {w : World} {Q : Exit -> Act -> World -> Prop} {rest : Code} (l : Nat) (J : Nat -> Act -> World -> Prop) (n0 : Nat) (h0 : J n0 a w)
  (pass : ∀ n a w, J n a w -> rest.wp P (Exit.jump l (fun a' w' => ∃ m, m < n /\ J m a' w') Q) a w) : (Code.scope (.seq (.label l) rest)).wp P Q a w:=by
 have strong : ∀ a w, (∃ n, J n a w) -> rest.wp P (Exit.jump l (fun a' w' => (∃ n, J n a' w') /\ leastN (fun n => J n a' w') < leastN (fun n => J n a w)) Q) a w:=by
  intro a w h;obtain ⟨h1, _⟩:=leastN_of h;refine wp_mono (pass _ a w h1) ?_;intro e a' w' he;cases e with
  | goto l' => obtain ⟨e, m, h2, h3⟩:=he;exact ⟨e, ⟨m, h3⟩, Nat.lt_of_le_of_lt ((leastN_of ⟨m, h3⟩).2 m h3) h2⟩
  | normal => exact he
  | exit _ => exact he
  | ret => exact he
  | panic _ => exact he
  | outgrown => exact he
 refine wp_scope_jumps l (fun a w => ∃ n, J n a w) (fun a w => leastN (fun n => J n a w)) (rest:=.seq .skip rest) (by simp [findLabel]) ?_ ?_
 ·refine wp_seq ?_;refine wp_label ?_;refine wp_mono (strong a w ⟨n0, h0⟩) ?_;intro e a' w' he;cases e with
  | goto l' => exact ⟨he.1, he.2.1⟩
  | normal => exact he
  | exit _ => exact he
  | ret => exact he
  | panic _ => exact he
  | outgrown => exact he
 ·intro a w h;refine wp_seq ?_;refine wp_skip ?_;exact strong a w h
section
variable {NS : Nat} {S : St} {Vt : List Ob} {ext : List Int} {ex pend : Nat -> Prop}
theorem Inv.packed (h : Inv NS S Vt ext ex pend) (t : Bool) : Inv NS { S with t:=t } Vt ext ex pend:={ h with }
end
def BlockPost (p : LmP) (N NW NS : Nat) (S : St) (Vt : List Ob) (ext : List Int) (ex : Nat -> Prop) (n : Nat) (w : World) (e : Ending) (w' : World) : Prop :=
 (e = .returned (.tuple #[.int .i64 0, .bool false]) /\ ∃ S', LmMem w' p N NW NS S' /\ Inv NS S' Vt ext ex (fun _ => False) /\ Fell S S' /\ Only (p.set S.sl) w w') \/
 ∃ (b : Nat) (H : HpP) (S' : St), e = .returned (.tuple #[.int .i64 b, .bool true]) /\ Step p S w { p with H:=H } S' w' /\ LmMem w' { p with H:=H } N NW NS S' /\ Inv NS S' Vt ext ex (fun j => j = b) /\ S'.V b = some (List.replicate n 0) /\ Fell S S'
def BlockJ (p : LmP) (N NW NS : Nat) (S : St) (Vt : List Ob) (ext : List Int) (ex : Nat -> Prop) (w : World) (m : Nat) (wr : World) : Prop :=
 ∃ S1, LmMem wr p N NW NS S1 /\ Inv NS S1 Vt ext ex (fun _ => False) /\ Fell S S1 /\ Only (p.set S.sl) w wr /\ 2 * nresTo S1.sl (NS + 1) + (if S1.t then 0 else 1) <= m
theorem block_any (p : LmP) (N NW NS : Nat) (S : St) (Vt : List Ob) (ext : List Int) (ex : Nat -> Prop) (n : Nat) (w : World) (h : LmMem w p N NW NS S) (hI : Inv NS S Vt ext ex (fun _ => False)) (hext : ext.length <= 1000) (hn : n <= 40000) :
  Calls Tryz.prog 208 #[.pointer (some ⟨p.m, 0, none⟩), .int .i64 n] w (BlockPost p N NW NS S Vt ext ex n w):=by
 have NSs:=h.small;have start : BlockJ p N NW NS S Vt ext ex w (2 * nresTo S.sl (NS + 1) + 1) w:=⟨S, h, hI, Fell.refl _, Only.refl _ _, by split <;> omega⟩
 have START:=hid start;clear start h hI;go_enter Tryz.func208, Tryz.ntmps208;go_wp2_with fail;refine wp_scope_label 0 (fun m a wr => BlockJ p N NW NS S Vt ext ex w m wr /\ ∃ u6 u7 u8 u9 u10 u11 u12 u13 u14 u15 u16 u17 u18 u19 u20 u21 u22 u23 u24 u25 u26 u27 u28 u29 u30 u31 u32 u33 u34 u35 u36 u37 u38 u39 u40 u41 u42 u43 u44 u45 : Value, a = { tmps:=#[.pointer (some ⟨p.m, 0, none⟩), .int .i64 n, undef, undef, .int .i64 0, .bool false, u6, u7, u8, u9, u10, u11, u12, u13, u14, u15, u16, u17, u18, u19, u20, u21, u22, u23, u24, u25, u26, u27, u28, u29, u30, u31, u32, u33, u34, u35, u36, u37, u38, u39, u40, u41, u42, u43, u44, u45], defers:=[] }) (2 * nresTo S.sl (NS + 1) + 1) ⟨START.out, _, _, _, _, _, _, _, _, _, _, _, _, _, _, _, _, _, _, _, _, _, _, _, _, _, _, _, _, _, _, _, _, _, _, _, _, _, _, _, _, rfl⟩ ?_;clear START;rintro m a wr ⟨hJ, u6, u7, u8, u9, u10, u11, u12, u13, u14, u15, u16, u17, u18, u19, u20, u21, u22, u23, u24, u25, u26, u27, u28, u29, u30, u31, u32, u33, u34, u35, u36, u37, u38, u39, u40, u41, u42, u43, u44, u45, rfl⟩;obtain ⟨S1, hM, hI, hF, hO, hm⟩:=hJ;obtain ⟨-, m1, -, -, -, -⟩:=hM.look2;have hal:=heapAlloc_any p.H NW S1.hc S1.V S1.t n wr hM.heap hn (by have:=hI.count; omega);have HAL:=hid hal;have HM:=hid hM;have HI:=hid hI;have HF:=hid hF;have HO:=hid hO;have HX:=hid hext;clear hal hM hI hF hO hext;go_wp2_with fail;refine HAL.out.mono ?_;rintro e w2 (⟨rfl, hb⟩ | ⟨b, P', c', rfl, hH, hVb, hPh, hPs, hO2, hc', hbc⟩)
 ·have M2:=HM.out.below hb;have O2 : Only (p.set S.sl) w w2:=HO.out.then_ (only_of hb (fun _ => False)) (fun _ h => h.elim);obtain ⟨-, m1, -, -, -, -⟩:=M2.look2;have hrm:=heapRoom_any p.H NW S1.hc S1.V S1.t w2 M2.heap;have HRM:=hid hrm;have HM2:=hid M2;have HO2:=hid O2;clear hrm M2 O2 HM HO HAL hb;go_wp2_with fail;refine HRM.out.mono ?_;rintro e w3 ⟨all, most, rfl, hpk, hb⟩;have M3:=HM2.out.below hb;have O3 : Only (p.set S.sl) w w3:=HO2.out.then_ (only_of hb (fun _ => False)) (fun _ h => h.elim);obtain ⟨-, m1, -, -, -, -⟩:=M3.look2;have HM3:=hid M3;have HO3:=hid O3;have HPK:=hid hpk;clear hpk M3 O3 HM2 HO2 HRM hb;by_cases hc : (n : Int) <= all /\ (most : Int) < n
  ·have ht : S1.t = false:=by
    cases hh : S1.t with
    | false => rfl
    | true => have:=HPK.out hh; omega
   obtain ⟨c1, c2⟩:=hc;have hcp:=heapCompact_any p.H NW S1.hc S1.V S1.t w3 HM3.out.heap;have HCP:=hid hcp;clear hcp;go_wp2_with fail;refine HCP.out.mono ?_;rintro e w4 ⟨k, rfl, hH, hO4⟩;have M4:=HM3.out.toHeap hO4 p.H S1.hc S1.V true hH rfl (fun _ h => .inl h);have I4:=HI.out.packed true;have hset : ∀ k, p.H.set k -> p.set S.sl k:=fun k hk => ⟨2, hk⟩;have J4 : BlockJ p N NW NS S Vt ext ex w (2 * nresTo S1.sl (NS + 1)) w4:=⟨_, M4, I4, ⟨HF.out.busy, HF.out.slot⟩, HO3.out.trans (hO4.mono hset), by simp⟩;have hlt : 2 * nresTo S1.sl (NS + 1) < m:=by rw [ht] at hm; simp at hm; omega
   have HJ:=hid J4;clear J4 M4 I4 hset hO4 hH HCP HM3 HO3 HI HF HPK HX hm;go_wp2_with fail;go_step3
   exact ⟨rfl, _, hlt, HJ.out, _, _, _, _, _, _, _, _, _, _, _, _, _, _, _, _, _, _, _, _, _, _, _, _, _, _, _, _, _, _, _, _, _, _, _, _, _, _, _, _, rfl⟩
  ·by_cases c1 : (n : Int) <= all
   ·have c2 : ¬ ((most : Int) < n):=fun h => hc ⟨c1, h⟩;clear hc;clear HPK;have hsw:=sweep_any p N NW NS S1 Vt ext ex (fun _ => False) w3 HM3.out HI.out HX.out;have HSW:=hid hsw;clear hsw HM3 HI m1;go_wp2_with fail;refine HSW.out.mono ?_;rintro e w4 ⟨k, S2, rfl, hk1, M4, I4, F4, C4, O4, z4, l4⟩;have J4 : BlockJ p N NW NS S Vt ext ex w (2 * nresTo S2.sl (NS + 1) + 1) w4:=⟨S2, M4, I4, HF.out.trans F4, HO3.out.trans (O4.mono (HF.out.set p)), by split <;> omega⟩
    have e4 : BlockPost p N NW NS S Vt ext ex n w (.returned (.tuple #[.int .i64 0, .bool false])) w4:=.inl ⟨rfl, S2, M4, I4, HF.out.trans F4, HO3.out.trans (O4.mono (HF.out.set p))⟩;have HJ:=hid J4;have HE:=hid e4;clear J4 e4 M4 I4 F4 C4 O4 z4 HSW HO3 HF HX;have hkk : k = 0 \/ k = 1:=by omega
    clear hk1;rcases hkk with rfl | rfl
    ·clear l4 HJ hm;go_wp2_with fail;simp only [Exit.jump];go_ret2;exact HE.out
    ·have l5:=l4 rfl;clear l4 HE;have hlt : 2 * nresTo S2.sl (NS + 1) + 1 < m:=by split at hm <;> omega
     clear l5 hm;go_wp2_with fail;go_step3
     exact ⟨rfl, _, hlt, HJ.out, _, _, _, _, _, _, _, _, _, _, _, _, _, _, _, _, _, _, _, _, _, _, _, _, _, _, _, _, _, _, _, _, _, _, _, _, _, _, _, _, rfl⟩
   ·clear hc;clear HPK;have hsw:=sweep_any p N NW NS S1 Vt ext ex (fun _ => False) w3 HM3.out HI.out HX.out;have HSW:=hid hsw;clear hsw HM3 HI m1;go_wp2_with fail;refine HSW.out.mono ?_;rintro e w4 ⟨k, S2, rfl, hk1, M4, I4, F4, C4, O4, z4, l4⟩;have J4 : BlockJ p N NW NS S Vt ext ex w (2 * nresTo S2.sl (NS + 1) + 1) w4:=⟨S2, M4, I4, HF.out.trans F4, HO3.out.trans (O4.mono (HF.out.set p)), by split <;> omega⟩
    have e4 : BlockPost p N NW NS S Vt ext ex n w (.returned (.tuple #[.int .i64 0, .bool false])) w4:=.inl ⟨rfl, S2, M4, I4, HF.out.trans F4, HO3.out.trans (O4.mono (HF.out.set p))⟩;have HJ:=hid J4;have HE:=hid e4;clear J4 e4 M4 I4 F4 C4 O4 z4 HSW HO3 HF HX;have hkk : k = 0 \/ k = 1:=by omega
    clear hk1;rcases hkk with rfl | rfl
    ·clear l4 HJ hm;go_wp2_with fail;simp only [Exit.jump];go_ret2;exact HE.out
    ·have l5:=l4 rfl;clear l4 HE;have hlt : 2 * nresTo S2.sl (NS + 1) + 1 < m:=by split at hm <;> omega
     clear l5 hm;go_wp2_with fail;go_step3
     exact ⟨rfl, _, hlt, HJ.out, _, _, _, _, _, _, _, _, _, _, _, _, _, _, _, _, _, _, _, _, _, _, _, _, _, _, _, _, _, _, _, _, _, _, _, _, _, _, _, _, rfl⟩
 ·have M2:=HM.out.toHeap hO2 P' c' _ false hH hPh hPs;have hcn:=HI.out.count;have hcc : c' <= NS + 2:=by
   rcases hc' with e | ⟨e, _, hall⟩
   ·omega
   ·have:=HI.out.full hall;omega
  have hkb : ∀ s r, resOf S1.sl s = some r -> r.b ≠ b:=fun s r hr e => by obtain ⟨ws, hws⟩:=HI.out.resV hr;rw [e, hVb] at hws;cases hws
  have I2:=HI.out.alloc b (List.replicate n 0) hkb c' false hcc;have hset : ∀ k, p.H.set k -> p.set S.sl k:=fun k hk => ⟨2, hk⟩;have hlow:=HO.out.size;have e2 : BlockPost p N NW NS S Vt ext ex n w (.returned (.tuple #[.int .i64 b, .bool true])) w2:=by
   refine .inr ⟨b, P', _, rfl, ⟨rfl, ?_, HO.out.trans (hO2.mono hset)⟩, M2, ?_, by simp [updV], ⟨HF.out.busy, HF.out.slot⟩⟩
   ·rintro k ⟨i, hi⟩;by_cases e : i = 2
    ·subst e;rcases hPs k hi with h1 | h1
     ·exact .inl ⟨2, h1⟩
     ·exact .inr (by omega)
    ·left
     refine HF.out.set p k ⟨i, ?_⟩
     match i, hi, e with
     | 0, hi, _ => exact hi
     | 1, hi, _ => exact hi
     | 3, hi, _ => exact hi
     | 4, hi, _ => exact hi
     | 5, hi, _ => exact hi
     | s + 6, hi, _ => exact hi
   ·have e : (fun j => False \/ j = b) = fun j => j = b:=by funext j; simp
    rw [<- e]; exact I2
  have HE:=hid e2;clear e2 M2 I2 hset hH hVb hPh hPs hO2 hc' hbc hcn hcc hkb hlow HAL HM HI HF HO HX m1 hm;go_wp2_with fail;simp only [Exit.jump];go_ret2;exact HE.out
end Go.Proofs.YtgaemfghpibeeaaGreatDoor
namespace Go.Proofs.YtgaemfghpibeeaaGreatDoor
open Go.RowKit
theorem i64_or8 (x y : Int) (h : x % 256 = 0) (h0 : 0 <= x) (h1 : x < 4611686018427387904) (hy0 : 0 <= y) (hy1 : y < 256) : bits .or .i64 x y = x + y:=by
 obtain ⟨a, ha⟩ : ∃ a : Nat, x = a:=⟨x.toNat, by omega⟩;obtain ⟨b, hb⟩ : ∃ b : Nat, y = b:=⟨y.toNat, by omega⟩;subst ha hb;have e : (BitVec.ofInt 64 ((a : Nat) : Int) ||| BitVec.ofInt 64 ((b : Nat) : Int)).toNat = a + b:=by
  rw [BitVec.toNat_or, BitVec.toNat_ofInt, BitVec.toNat_ofInt];have e1 : (((a : Nat) : Int) % ((2 ^ 64 : Nat) : Int)).toNat = a:=by omega
  have e2 : (((b : Nat) : Int) % ((2 ^ 64 : Nat) : Int)).toNat = b:=by omega
  rw [e1, e2];have h2 : a = 2 ^ 8 * (a / 256):=by omega
  have:=Nat.two_pow_add_eq_or_of_lt (i:=8) (b:=b) (by omega) (a / 256);rw [<- h2] at this;exact this.symm
 show IntKind.i64.wrap ((BitVec.ofInt 64 ((a : Nat) : Int) ||| BitVec.ofInt 64 ((b : Nat) : Int)).toNat : Nat) = _
 rw [e, IntKind.wrap_i64];omega
theorem i64_or0 (y : Int) (h0 : 0 <= y) (h1 : y < 4611686018427387904) : bits .or .i64 0 y = y:=by
 obtain ⟨b, hb⟩ : ∃ b : Nat, y = b:=⟨y.toNat, by omega⟩;subst hb;have e : (BitVec.ofInt 64 0 ||| BitVec.ofInt 64 ((b : Nat) : Int)).toNat = b:=by
  rw [BitVec.toNat_or, BitVec.toNat_ofInt, BitVec.toNat_ofInt];have e2 : (((b : Nat) : Int) % ((2 ^ 64 : Nat) : Int)).toNat = b:=by omega
  rw [e2];simp
 show IntKind.i64.wrap ((BitVec.ofInt 64 0 ||| BitVec.ofInt 64 ((b : Nat) : Int)).toNat : Nat) = _
 rw [e, IntKind.wrap_i64];omega
def nar1 (o : Ob) (n j : Nat) : List Int:=(List.range n).map fun k => if k < j then narW (o.ws.getD k 0) else 0
def nar2 (o : Ob) (n j : Nat) : List Int:=(List.range n).map fun k => pairB (o.bs.take j) k
def nar3 (o : Ob) (n j : Nat) : List Int:=if o.kind = 1 then narM o else nar2 o n j
theorem nar1_length (o : Ob) (n j : Nat) : (nar1 o n j).length = n:=by simp [nar1]
theorem nar2_length (o : Ob) (n j : Nat) : (nar2 o n j).length = n:=by simp [nar2]
theorem nar1_get (o : Ob) (n j k : Nat) (h : k < n) : (nar1 o n j).getD k 0 = if k < j then narW (o.ws.getD k 0) else 0:=by rw [nar1, getD_range_map _ _ _ h]
theorem nar2_get (o : Ob) (n j k : Nat) (h : k < n) : (nar2 o n j).getD k 0 = pairB (o.bs.take j) k:=by rw [nar2, getD_range_map _ _ _ h]
theorem nar1_zero (o : Ob) (n : Nat) : List.replicate n 0 = nar1 o n 0:=by refine ext_getD (by simp [nar1]) (fun k hk => ?_);simp at hk;rw [nar1_get o n 0 k hk, if_neg (by omega), getD_eq_getElem?_getD, List.getElem?_replicate, if_pos hk]; rfl
theorem nar2_zero (o : Ob) (n : Nat) : nar1 o n 0 = nar2 o n 0:=by refine ext_getD (by simp [nar1, nar2]) (fun k hk => ?_);rw [nar1_length] at hk;rw [nar1_get o n 0 k hk, if_neg (by omega), nar2_get o n 0 k hk];simp [pairB]
theorem nar1_set (o : Ob) (n j : Nat) : (nar1 o n j).set j (narW (o.ws.getD j 0)) = nar1 o n (j + 1):=by
 refine ext_getD (by rw [length_set, nar1_length, nar1_length]) (fun k hk => ?_);rw [length_set, nar1_length] at hk;rw [getD_set, nar1_length, nar1_get o n (j + 1) k hk, nar1_get o n j k hk];by_cases e : j = k
 ·subst e; rw [if_pos ⟨rfl, hk⟩, if_pos (by omega)]
 ·rw [if_neg (fun x => e x.1)];by_cases h2 : k < j
  ·rw [if_pos h2, if_pos (by omega)]
  ·rw [if_neg h2, if_neg (by omega)]
theorem nar1_all {o : Ob} (hk : o.kind = 1) : nar1 o o.ws.length o.ws.length = narM o:=by refine ext_getD (by rw [nar1_length, narM, if_pos hk, List.length_map]) (fun k h => ?_);rw [nar1_length] at h;rw [nar1_get o _ _ k h, if_pos h, narM, if_pos hk, getD_map _ _ h]
theorem getD_take (l : List Int) (j k : Nat) : (l.take j).getD k 0 = if k < j then l.getD k 0 else 0:=by
 rw [getD_eq_getElem?_getD, List.getElem?_take];by_cases h : k < j
 ·rw [if_pos h, if_pos h, getD_eq_getElem?_getD]
 ·rw [if_neg h, if_neg h]; rfl
theorem nar2_old (o : Ob) (n j : Nat) (h : j / 2 < n) : (nar2 o n j).getD (j / 2) 0 = if j % 2 = 0 then 0 else o.bs.getD (j - 1) 0 * 256:=by
 rw [nar2_get o n j _ h, pairB, getD_take, getD_take];by_cases e : j % 2 = 0
 ·rw [if_pos e, if_neg (by omega), if_neg (by omega)]; rfl
 ·rw [if_neg e, if_pos (by omega), if_neg (by omega), Int.add_zero];have : 2 * (j / 2) = j - 1:=by omega
  rw [this]
theorem nar2_set (o : Ob) (n j : Nat) : (nar2 o n j).set (j / 2) (if j % 2 = 0 then o.bs.getD j 0 * 256 else o.bs.getD (j - 1) 0 * 256 + o.bs.getD j 0) = nar2 o n (j + 1):=by
 refine ext_getD (by rw [length_set, nar2_length, nar2_length]) (fun k hk => ?_);rw [length_set, nar2_length] at hk;rw [getD_set, nar2_length, nar2_get o n (j + 1) k hk, nar2_get o n j k hk];by_cases e : j / 2 = k
 ·subst e;rw [if_pos ⟨rfl, hk⟩, pairB, getD_take, getD_take];by_cases e : j % 2 = 0
  ·rw [if_pos e, if_pos (by omega), if_neg (by omega), Int.add_zero];have : 2 * (j / 2) = j:=by omega
   rw [this]
  ·rw [if_neg e, if_pos (by omega), if_pos (by omega)];have e1 : 2 * (j / 2) = j - 1:=by omega
   have e2 : j - 1 + 1 = j:=by omega
   rw [e1, e2]
 ·rw [if_neg (fun x => e x.1), pairB, pairB, getD_take, getD_take, getD_take, getD_take];by_cases h2 : k < j / 2
  ·rw [if_pos (by omega), if_pos (by omega), if_pos (by omega), if_pos (by omega)]
  ·rw [if_neg (by omega), if_neg (by omega), if_neg (by omega), if_neg (by omega)]
theorem nar2_all {o : Ob} (hk : o.kind = 2) : nar2 o ((o.bs.length + 1) / 2) o.bs.length = narM o:=by rw [nar2, narM, if_neg (by omega), take_of_length_le (Nat.le_refl _)]
theorem nar_any (o : Ob) (A : Option Addr) (ca : Nat) (B : Option Addr) (cb : Nat) (w : World) (hR : ObR w o A ca B cb) (hc : checkM o = true) :
  Calls Tryz.prog 207 #[.agg (obV o A ca B cb)] w fun e w' => ∃ v, e = .returned v /\ OwnsI w' w.heap.size v (narM o) /\ Below w.heap.size w w':=by
 have hbv:=hR.byts.vals;have hlen:=narM_length hc;obtain ⟨_, hk2⟩:=checkM_parts hc;obtain ⟨n1, hn1⟩ : ∃ n, n = o.ws.length:=⟨_, rfl⟩;obtain ⟨n2, hn2⟩ : ∃ n, n = o.bs.length:=⟨_, rfl⟩;obtain ⟨n, hn⟩ : ∃ n, n = lenW o.kind (sizeM o):=⟨_, rfl⟩;have HNL : Hid ((narM o).length = n):=hid (by rw [hn]; exact hlen);obtain ⟨sz, hsz⟩ : ∃ sz, sz = sizeM o:=⟨_, rfl⟩;have hbd : n1 <= 1000 /\ n2 <= 1000 /\ n <= 1000 /\ sz <= 1000 /\ (0 < n1 -> n = n1 /\ o.kind = 1) /\ (0 < n2 -> n = (n2 + 1) / 2 /\ o.kind = 2) /\ (o.kind = 1 -> n = n1) /\ (o.kind ≠ 1 -> n1 = 0) /\ (o.kind ≠ 1 -> o.kind = 2 /\ n = (n2 + 1) / 2) /\ (o.kind = 1 -> n2 = 0):=by
  rw [hn, hn1, hn2, hsz];rcases hk2 with ⟨a1, a2, a3, _⟩ | ⟨a1, a2, a3⟩
  ·have e1 : sizeM o = o.ws.length:=by simp [sizeM, a1]
   have e2 : lenW o.kind o.ws.length = o.ws.length:=by simp [lenW, a1]
   rw [e1, e2, a2];simp [a1, a3]
  ·have e1 : sizeM o = o.bs.length:=by simp [sizeM, a1]
   have e2 : lenW o.kind o.bs.length = (o.bs.length + 1) / 2:=by simp [lenW, a1]
   rw [e1, e2, a2];simp [a1, a3];omega
 obtain ⟨b1, b2, b3, b4, b5, b6, b7, b8, b9, b10⟩:=hbd;have hsiz:=fun W => size_any o A ca B cb W;have hwd:=fun W => words_any o.kind sz (by omega) W;have hmk:=fun W => make_ints n (by omega) W;rw [<- hsz] at hn hsiz;rw [<- hn] at hwd;have HZ : ∀ W : World, Hid (Blk (W.alloc (.cells (intCells (List.replicate n 0)) 3)) W.heap.size 3 (intCells (nar1 o n 0))):=fun W => hid (by rw [<- nar1_zero]; exact Blk.new W 3 _);obtain ⟨zs, hzs⟩ : ∃ zs, zs = intCells (List.replicate n 0):=⟨_, rfl⟩;rw [<- hzs] at hmk HZ;unfold obV at hsiz ⊢;rw [<- hn1, <- hn2] at hsiz ⊢;have HS:=hid hsiz;have HW:=hid hwd;have HR:=hid hR;have HBV:=hid hbv;have HN1:=hid hn1;have HN2:=hid hn2;have B5:=hid b5;have B6:=hid b6;have B7:=hid b7;have B8:=hid b8;have B9:=hid b9;have B10:=hid b10;clear hsiz hwd hR hbv hn1 hn2 hc b5 b6 b7 b8 b9 b10 hzs hk2 hlen hn hsz;obtain ⟨cl, hcl⟩ : ∃ c, c = o.cls:=⟨_, rfl⟩;obtain ⟨ki, hki⟩ : ∃ c, c = o.kind:=⟨_, rfl⟩;rw [<- hcl, <- hki];rw [<- hcl, <- hki] at HS;rw [<- hki] at HW B5 B6 B7 B8 B9 B10;have HKI:=hid hki;clear hcl hki;go_enter Tryz.func207, Tryz.ntmps207;go_upto_region 1 with (fail);go_cut [3] from 10 to 15 (fun s3 wx => ∃ g, s3 = .slice (some ⟨g, 0, none⟩) n n /\ w.heap.size < g /\ Aside (Blk wx w.heap.size 29 #[.int .i64 cl, .int .i64 ki, .slice A n1 ca, .slice B n2 cb]) /\ Aside (Blk wx g 3 (intCells (nar1 o n 0))) /\ Aside (Only (fun _ => False) w wx))
 case first =>
  have nA:=(Blk.new w 29 #[.int .i64 cl, .int .i64 ki, .slice A n1 ca, .slice B n2 cb]).drew;have o0 : Only (fun _ => False) w (w.alloc (.cells #[.int .i64 cl, .int .i64 ki, .slice A n1 ca, .slice B n2 cb] 29)).drew:=((Only.refl _ w).alloc _).trans (only_drew _ _);go_region_held3 (fun w' => w'.cell? ⟨w.heap.size, 0, none⟩ = some (.int .i64 cl) /\ w'.cell? ⟨w.heap.size, 1, none⟩ = some (.int .i64 ki) /\ w'.cell? ⟨w.heap.size, 2, none⟩ = some (.slice A n1 ca) /\ w'.cell? ⟨w.heap.size, 3, none⟩ = some (.slice B n2 cb))
   (first | exact ⟨n0, n1', n2', n3⟩ | go_keep)
   (first | (go_at_call 52; refine (HS.out _).mono ?_; rintro e w2 ⟨rfl, hb⟩; have nA2:=nA.keep hb; have n0:=nA2.cell 0; have n1':=nA2.cell 1; have n2':=nA2.cell 2; have n3:=nA2.cell 3; simp only [qTa, qTb, qTc] at n0 n1' n2' n3; have hz2 : w.heap.size + 1 <= w2.heap.size:=(by have:=hb.size; simpa using this)) | (go_at_call 28; refine (HW.out _).mono ?_; rintro e w3 ⟨rfl, rfl⟩))
  go_wp2_with fail;go_meet;exact ⟨_, rfl, hz2, nA2.alloc _, (HZ w2).out, (o0.trans (only_of hb _)).alloc _⟩
 obtain ⟨g, rfl, hg, hB, hG, hO⟩:=hcut;have HLT : w.heap.size < wc.heap.size:=by have:=hG.out.lt; omega
 have i0 : Aside (ObR wc o A ca B cb):=HR.out.below hO.out.none_below;clear HZ hmk HS HW;have c2:=hB.out.cell 2;have c3:=hB.out.cell 3;simp only [qTa, qTb, qTc] at c2 c3;have hB0:=hB.out;have hG0:=hG.out;have hO0:=hO.out;clear hB hG hO;go_wp2_with fail;go_loopg [19] n1 (fun gk s19 wr => ∃ j : Nat, j + gk = n1 /\ s19 = .int .i64 j /\ Aside (Blk wr w.heap.size 29 #[.int .i64 cl, .int .i64 ki, .slice A n1 ca, .slice B n2 cb]) /\ Aside (Blk wr g 3 (intCells (nar1 o n j))) /\ Aside (Only (fun _ => False) w wr))
 case atStart => exact ⟨0, by omega, rfl, hB0, hG0, hO0⟩
 case round =>
  clear hB0 hG0 hO0 c2 c3 i0 HLT;obtain ⟨j, hj, rfl, hB, hG, hO⟩:=hrel;have HIR:=hid (HR.out.below hO.out.none_below);cases gk with
  | succ q =>
   have hjn : (j : Int) < n1:=by omega
   obtain ⟨x, hx⟩ : ∃ x, o.ws[j]? = some x:=⟨_, getElem?_eq_getElem (by have:=HN1.out; omega)⟩;obtain ⟨_, b, off, hA, _, c0⟩:=HIR.out.ints j x hx;subst hA;have jn : (j : Int) < n:=by have:=(B5.out (by omega)).1; omega
   have g1:=hG.out.cell j;rw [intCells_get _ _ (by rw [nar1_length]; omega)] at g1;have f1:=hG.out.frozen j;have gl:=hG.out.lt;have hnw:=narrow_any x wr;have hst:=nar1_set o n j;have hxd : o.ws.getD j 0 = x:=by rw [getD_eq_getElem?_getD, hx]; rfl
   rw [hxd, narW] at hst;have hgn : g ≠ w.heap.size:=by omega
   obtain ⟨r, hr⟩ : ∃ r, r = nrwM x:=⟨_, rfl⟩;rw [<- hr] at hnw hst;obtain ⟨y, ok⟩:=r;simp only at hst;have HNW:=hid hnw;have hBo:=hB.out;have hGo:=hG.out;have hOo:=hO.out;clear hnw hr hx hxd HIR hB hG hO;cases ok with
   | true =>
    rw [if_pos rfl] at hst;have e1 : Aside (Blk (wr.setCell ⟨g, j, none⟩ (.int .i64 y)) w.heap.size 29 #[.int .i64 cl, .int .i64 ki, .slice (some ⟨b, off, none⟩) n1 ca, .slice B n2 cb]):=hBo.far (p:=⟨g, j, none⟩) (Ne.symm hgn) _;have e2 : Aside (Blk (wr.setCell ⟨g, j, none⟩ (.int .i64 y)) g 3 (intCells (nar1 o n (j + 1)))):=by rw [<- hst, <- intCells_set]; exact hGo.set_ j _
    have e3 : Aside (Only (fun _ => False) w (wr.setCell ⟨g, j, none⟩ (.int .i64 y))):=hOo.setCell (p:=⟨g, j, none⟩) (.inr (by dsimp only; omega)) _;clear hBo hGo hOo hst;go_wp2_with fail;refine HNW.out.mono ?_;rintro e w2 ⟨rfl, rfl⟩;go_wp2_with fail;go_roundg q
    case measure => omega
    case rel => exact ⟨j + 1, by omega, by go_num, e1, e2, e3⟩
   | false =>
    rw [if_neg (by simp)] at hst;go_wp2_with fail;refine HNW.out.mono ?_;rintro e w2 ⟨rfl, rfl⟩;go_upto_region 7 with (fail);have b1:=hBo.far (p:=⟨g, j, none⟩) (Ne.symm hgn) (.int .i64 y);have b2:=hGo.set_ j (.int .i64 y);have b3 : Only (fun _ => False) w (wr.setCell ⟨g, j, none⟩ (.int .i64 y)):=hOo.setCell (p:=⟨g, j, none⟩) (.inr (by dsimp only; omega)) _;have hzz : (wr.setCell ⟨g, j, none⟩ (.int .i64 y)).heap.size = wr.heap.size:=World.size_setCell _ _ _;rw [<- hzz] at gl;rw [intCells_set] at b2;clear hBo hGo hOo hzz g1 f1 c0;generalize wr.setCell ⟨g, j, none⟩ (.int .i64 y) = W at b1 b2 b3 gl ⊢;have g1:=b2.cell j;rw [intCells_get _ _ (by rw [length_set, nar1_length]; omega)] at g1;have f1:=b2.frozen j;have e1 : Aside (Blk (W.setCell ⟨g, j, none⟩ (.int .i64 65534)) w.heap.size 29 #[.int .i64 cl, .int .i64 ki, .slice (some ⟨b, off, none⟩) n1 ca, .slice B n2 cb]):=b1.far (p:=⟨g, j, none⟩) (Ne.symm hgn) _;have e2 : Aside (Blk (W.setCell ⟨g, j, none⟩ (.int .i64 65534)) g 3 (intCells (nar1 o n (j + 1)))):=by have:=b2.set_ j (.int .i64 65534);rw [intCells_set, List.set_set, hst] at this;exact this
    have e3 : Aside (Only (fun _ => False) w (W.setCell ⟨g, j, none⟩ (.int .i64 65534))):=b3.setCell (p:=⟨g, j, none⟩) (.inr (by dsimp only; omega)) _;clear b1 b2 b3 hst HNW;go_wp2_with fail;go_roundg q
    case measure => omega
    case rel => exact ⟨j + 1, by omega, by go_num, e1, e2, e3⟩
  | zero =>
   have hjn : ¬ ((j : Int) < n1):=by omega
   have hGo : Blk wr g 3 (intCells (nar3 o n 0)):=by
    have:=hG.out;rw [nar3];by_cases hk : ki = 1
    ·rw [if_pos (HKI.out.symm.trans hk), <- nar1_all (HKI.out.symm.trans hk), <- HN1.out];have e1 : j = n1:=by omega
     have e2:=B7.out hk;rw [e1, e2] at this;exact this
    ·rw [if_neg (fun e => hk (HKI.out.trans e)), <- nar2_zero];have e1:=B8.out hk;have e2 : j = 0:=by omega
     rw [e2] at this;exact this
   have hBo:=hB.out;have hOo:=hO.out;have c3:=hBo.cell 3;simp only [qTa, qTb, qTc] at c3;clear hG hB hO HIR;go_wp2_with fail;go_loopg [42] n2 (fun gk s42 wz => ∃ j : Nat, j + gk = n2 /\ s42 = .int .i64 j /\ Aside (Blk wz w.heap.size 29 #[.int .i64 cl, .int .i64 ki, .slice A n1 ca, .slice B n2 cb]) /\ Aside (Blk wz g 3 (intCells (nar3 o n j))) /\ Aside (Only (fun _ => False) w wz))
   case atStart => exact ⟨0, by omega, rfl, hBo, hGo, hOo⟩
   case round =>
    clear hBo hGo hOo c3 hjn hj;obtain ⟨j, hj, rfl, hB, hG, hO⟩:=hrel;have HIR:=hid (HR.out.below hO.out.none_below);cases gk with
    | succ q =>
     have hjn : (j : Int) < n2:=by omega
     obtain ⟨x, hx⟩ : ∃ x, o.bs[j]? = some x:=⟨_, getElem?_eq_getElem (by have:=HN2.out; omega)⟩;obtain ⟨x0, x1, b, off, hA, _, c0⟩:=HIR.out.byts j x hx;subst hA;obtain ⟨jh, hjh⟩ : ∃ jh : Nat, jh = j / 2:=⟨_, rfl⟩;have hjh2 : (j : Int) / 2 = (jh : Int):=by omega
     have hjh3 : (j : Int).tdiv 2 = (jh : Int):=by rw [Int.tdiv_eq_ediv_of_nonneg (by omega)]; exact hjh2
     have hjw : IntKind.i64.wrap (jh : Int) = (jh : Int):=by rw [IntKind.wrap_i64]; omega
     have jn : (jh : Int) < n:=by have:=(B6.out (by omega)).1; omega
     have hkk : ¬ (o.kind = 1):=by have:=(B6.out (by omega)).2; have:=HKI.out; omega
     have hst:=nar2_set o n j;have hol:=nar2_old o n j (by omega);have hG2:=hG.out;rw [nar3, if_neg hkk] at hG2;have hxd : o.bs.getD j 0 = x:=by rw [getD_eq_getElem?_getD, hx]; rfl
     obtain ⟨x2, hx2⟩ : ∃ x2, x2 = o.bs.getD (j - 1) 0:=⟨_, rfl⟩;have hx3 : 0 <= x2 /\ x2 <= 255:=by rw [hx2];exact HBV.out _ (getD_mem (by have:=HN2.out; omega))
     rw [hxd, <- hjh, <- hx2] at hst;rw [<- hjh, <- hx2] at hol;have g1:=hG2.cell jh;rw [intCells_get _ _ (by rw [nar2_length]; omega), hol] at g1;have f1:=hG2.frozen jh;have gl:=hG2.lt;have hgn : g ≠ w.heap.size:=by omega
     have hBo:=hB.out;have hOo:=hO.out;obtain ⟨z2, z3⟩:=hx3;have HKK:=hid hkk;clear hG hB hO HIR hxd hx hx2 hol hkk;have w8 : IntKind.i64.wrap 8 = 8:=by decide
     have w0 : IntKind.i64.wrap 0 = 0:=by decide
     rcases Nat.mod_two_eq_zero_or_one j with hp | hp
     ·rw [if_pos hp] at hst g1;have t1 : (j : Int) % 2 = 0:=by omega
      have t2 : (j : Int).tmod 2 = 0:=by rw [Int.tmod_eq_emod_of_nonneg (by omega)]; exact t1
      clear hp hjh;have HST:=hid hst;have HB2:=hid hBo;have HG2:=hid hG2;have HO2:=hid hOo;have ho:=i64_or0 (x * 256) (by omega) (by omega);clear z2 z3;have xw : IntKind.i64.wrap x = x:=by rw [IntKind.wrap_i64]; omega
      have xw2 : IntKind.i64.wrap (x * 256) = x * 256:=by rw [IntKind.wrap_i64]; omega
      clear hst hBo hG2 hOo;go_upto_region 13 with (fail);go_still_tail 13, (by kernel_rfl)
      change wpList _ _ _ _ _ wr.drew;have b1:=HB2.out.drew;have b2:=HG2.out.drew;have b3 : Only (fun _ => False) w wr.drew:=HO2.out.trans (only_drew _ _);have f1:=b2.frozen jh;have gl : g < wr.drew.heap.size:=gl;clear HB2 HG2 HO2 g1 c0 gl;generalize wr.drew = W at b1 b2 b3 f1 ⊢;have gl:=b2.lt;have g1:=b2.cell jh;rw [intCells_get _ _ (by rw [nar2_length]; omega)] at g1;have e1 : Aside (Blk (W.setCell ⟨g, jh, none⟩ (.int .i64 (x * 256))) w.heap.size 29 #[.int .i64 cl, .int .i64 ki, .slice A n1 ca, .slice (some ⟨b, off, none⟩) n2 cb]):=b1.far (p:=⟨g, jh, none⟩) (Ne.symm hgn) _;have e2 : Aside (Blk (W.setCell ⟨g, jh, none⟩ (.int .i64 (x * 256))) g 3 (intCells (nar3 o n (j + 1)))):=by have:=b2.set_ jh (.int .i64 (x * 256));rw [intCells_set, HST.out] at this;rw [nar3, if_neg HKK.out];exact this
      have e3 : Aside (Only (fun _ => False) w (W.setCell ⟨g, jh, none⟩ (.int .i64 (x * 256)))):=b3.setCell (p:=⟨g, jh, none⟩) (.inr (by dsimp only; omega)) _;clear b1 b2 b3 HST;go_wp2_with fail;go_roundg q
      case measure => omega
      case rel => exact ⟨j + 1, by omega, by go_num, e1, e2, e3⟩
     ·rw [if_neg (by omega)] at hst g1;have t1 : (j : Int) % 2 = 1:=by omega
      have t2 : (j : Int).tmod 2 = 1:=by rw [Int.tmod_eq_emod_of_nonneg (by omega)]; exact t1
      clear hp hjh;have HST:=hid hst;have HB2:=hid hBo;have HG2:=hid hG2;have HO2:=hid hOo;have ho:=i64_or8 (x2 * 256) x (by omega) (by omega) (by omega) (by omega) (by omega);have xw : IntKind.i64.wrap x = x:=by rw [IntKind.wrap_i64]; omega
      have xw2 : IntKind.i64.wrap (x * 256) = x * 256:=by rw [IntKind.wrap_i64]; omega
      clear hst hBo hG2 hOo;go_upto_region 13 with (fail);go_still_tail 13, (by kernel_rfl)
      change wpList _ _ _ _ _ wr.drew;have b1:=HB2.out.drew;have b2:=HG2.out.drew;have b3 : Only (fun _ => False) w wr.drew:=HO2.out.trans (only_drew _ _);have f1:=b2.frozen jh;have gl : g < wr.drew.heap.size:=gl;clear HB2 HG2 HO2 g1 c0 gl;generalize wr.drew = W at b1 b2 b3 f1 ⊢;have gl:=b2.lt;have g1:=b2.cell jh;rw [intCells_get _ _ (by rw [nar2_length]; omega)] at g1;have e1 : Aside (Blk (W.setCell ⟨g, jh, none⟩ (.int .i64 (x2 * 256 + x))) w.heap.size 29 #[.int .i64 cl, .int .i64 ki, .slice A n1 ca, .slice (some ⟨b, off, none⟩) n2 cb]):=b1.far (p:=⟨g, jh, none⟩) (Ne.symm hgn) _;have e2 : Aside (Blk (W.setCell ⟨g, jh, none⟩ (.int .i64 (x2 * 256 + x))) g 3 (intCells (nar3 o n (j + 1)))):=by have:=b2.set_ jh (.int .i64 (x2 * 256 + x));rw [intCells_set, HST.out] at this;rw [nar3, if_neg HKK.out];exact this
      have e3 : Aside (Only (fun _ => False) w (W.setCell ⟨g, jh, none⟩ (.int .i64 (x2 * 256 + x)))):=b3.setCell (p:=⟨g, jh, none⟩) (.inr (by dsimp only; omega)) _;clear b1 b2 b3 HST;go_wp2_with fail;go_roundg q
      case measure => omega
      case rel => exact ⟨j + 1, by omega, by go_num, e1, e2, e3⟩
    | zero =>
     have hjn : ¬ ((j : Int) < n2):=by omega
     have hfin : OwnsI wr w.heap.size (.slice (some ⟨g, 0, none⟩) n n) (narM o):=by
      have hG2:=hG.out;have ejn : j = n2:=by omega
      have e : nar3 o n j = narM o:=by
       rw [nar3];by_cases hk : o.kind = 1
       ·rw [if_pos hk]
       ·rw [if_neg hk, ejn];obtain ⟨k1, k2⟩:=B9.out (fun e => hk (HKI.out.symm.trans e));rw [k2, HN2.out];exact nar2_all (HKI.out.symm.trans k1)
      rw [e] at hG2;have hl:=HNL.out;have:=OwnsI.of_blk (B:=w.heap.size) (xs:=narM o) (cap:=n) hG2 (by omega) (by omega) (by omega) (by simp [intCells, hl]) (by simp only [intCells]; exact take_of_length_le (by rw [List.length_map]; exact Nat.le_refl _));rw [hl] at this;exact this
     have hbel:=hO.out.none_below;have FIN : Hid (∃ v, Ending.returned (.slice (some ⟨g, 0, none⟩) n n) = .returned v /\ OwnsI wr w.heap.size v (narM o) /\ Below w.heap.size w wr):=hid ⟨_, rfl, hfin, hbel⟩;clear hfin hbel hB hG hO HIR;go_wp2_with fail;go_ret;exact FIN.out
end Go.Proofs.YtgaemfghpibeeaaGreatDoor
