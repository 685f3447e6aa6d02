/-
  Image.Load, image.Snap; the body of TopLoads answers true. Conditions: the two tables lie as listed; the arguments lie in memory as they read.
-/
import Derived.Test.YtgaemfghpibeeaaGreatDoorPk13
import Derived.Lib.SlBytesConst
set_option maxRecDepth 100000
set_option maxHeartbeats 6000000
open Go.Lib (hid)
open List (getElem?_eq_getElem mem_of_getElem? getElem?_append_left getElem?_append_right getD_eq_getElem?_getD eq_nil_of_length_eq_zero getElem?_eq_none_iff length_replicate take_of_length_le length_set length_append)
namespace Go.Proofs.YtgaemfghpibeeaaGreatDoor
open Go.RowKit Go.Maps
def RenO (s : Sto) (V : List Ob) (w : World) (all : List Nat) (x : Ob) (wr : World) (ob : Nat) (A : Option Addr) (ca : Nat) (B : Option Addr) (cb : Nat) (p : Nat) (wz : World) : Prop :=
 Blk wz ob 29 #[.int .i64 (renM all x.cls), .int .i64 x.kind, .slice A x.ws.length ca, .slice B x.bs.length cb] /\ OwnsI wz wr.heap.size (.slice A x.ws.length ca) (halfR all x.ws p) /\ OwnsB wz wr.heap.size (.slice B x.bs.length cb) x.bs /\ NearW s V w.heap.size w wz /\ Only s.set wr wz /\ wr.heap.size <= ob
section
variable {s : Sto} {V : List Ob} {w wr wz : World} {all : List Nat} {x : Ob} {ob p : Nat} {A B : Option Addr} {ca cb : Nat}
theorem RenO.start (h : ToldO s V w x wr ob A ca B cb wz) (hset : ∀ k, s.set k -> k < w.heap.size) (hwl : w.heap.size <= wr.heap.size) : RenO s V w all x wr ob A ca B cb 0 (wz.setCell ⟨ob, 0, none⟩ (.int .i64 (renM all x.cls))):=by
 obtain ⟨h1, h2, h3, h4, h5, h6⟩:=h;have ho : Only (fun k => k = ob) wz (wz.setCell ⟨ob, 0, none⟩ (.int .i64 (renM all x.cls))):=(Only.refl (fun k => k = ob) wz).setCell (p:=⟨ob, 0, none⟩) (.inl rfl) _;refine ⟨h1.set_ 0 _, ?_, ?_, h4.step hset (ho.mono (fun k e => by omega)), h5.setCell (.inr h6) _, h6⟩
 ·rw [halfR_zero];exact h2.onlyA ho (fun k hk e => h1.neI (by decide) h2 (e ▸ hk))
 ·refine h3.onlyA ho (fun k hk e => ?_);rcases h3.2 with ⟨e1, _⟩ | ⟨g, cap, cur, e1, _, hh, _⟩
  ·rw [e1] at hk; simp [Value.ownBlock] at hk
  ·rw [e1] at hk;simp [Value.ownBlock] at hk;unfold Blk at h1;rw [hk, e] at hh;rw [hh] at h1;injection h1 with h1;injection h1 with _ h7 _;cases h7
theorem RenO.next {b off : Nat} {v : Int} (h : RenO s V w all x wr ob A ca B cb p wz) (hset : ∀ k, s.set k -> k < w.heap.size) (hwl : w.heap.size <= wr.heap.size) (hv : x.ws[p]? = some v) (hA : A = some ⟨b, off, none⟩) : RenO s V w all x wr ob A ca B cb (p + 1) (wz.drew.setCell ⟨b, off + p, none⟩ (.int .i64 (renM all v))):=by obtain ⟨h1, h2, h3, h4, h5, h6⟩:=h;have hl:=(List.getElem?_eq_some_iff.1 hv).1;have hlen:=halfR_length all x.ws (Nat.le_of_lt hl);obtain ⟨g, e, hgB, hgl⟩:=h2.blk hA;injection e with e7 e8 e9;subst e7;subst e8;rw [Nat.zero_add];subst hA;have hne:=h1.neI (by decide) h2;have hob : ob ≠ b:=fun e => hne (by rw [e]; rfl);have ho : Only (fun k => k = b) wz (wz.drew.setCell ⟨b, p, none⟩ (.int .i64 (renM all v))):=((only_drew _ wz)).trans ((Only.refl (fun k => k = b) _).setCell (p:=⟨b, p, none⟩) (.inl rfl) _);obtain ⟨_, _, _, _, hst⟩:=OwnsI.at_ (w:=wz.drew) h2 (i:=p) (by rw [hlen]; exact hl);have h7:=hst (renM all v);rw [halfR_set all x.ws hv] at h7;refine ⟨h1.only ho hob, h7, h3.onlyA ho (fun k hk e => ?_), h4.step hset (ho.mono (fun k e => by omega)), h5.then_ ho (fun k e => .inr (by omega)), h6⟩;exact h3.ne h2 k hk (by rw [e]; rfl)
theorem RenO.own (h : RenO s V w all x wr ob A ca B cb x.ws.length wz) (hwl : w.heap.size <= wr.heap.size) (hc : checkM (renO all x) = true) (hb : ∀ v ∈ x.bs, 0 <= v /\ v <= 255) : OwnO wz w.heap.size ⟨renO all x, A, ca, B, cb⟩:=by
 obtain ⟨h1, h2, h3, h4, h5, h6⟩:=h;rw [halfR_all] at h2;have e : (renO all x).ws.length = x.ws.length:=by simp [renO]
 refine ownO_of (o:=renO all x) ?_ (OwnsB.mono h3 hwl) hc hb;rw [e];exact OwnsI.mono h2 hwl
end
theorem RowsO.setc {w w' : World} {B g : Nat} {v : Value} {L : List Q4} {cs : Array Value} (h : RowsO w B v L) (hb : Blk w g 24 cs) (ho : Only (fun k => k = g) w w') : RowsO w' B v L:=by
 unfold Blk at hb;refine h.far ho (fun e => ?_) (fun q hq x hx e => ?_)
 ·rcases h.row.2 with ⟨rfl, _⟩ | ⟨g', cap, cur, rfl, _, hh, _⟩
  ·simp [Value.ownBlock] at e
  ·simp [Value.ownBlock] at e;rw [e, hb] at hh;injection hh with hh;injection hh with _ h4 _;cases h4
 ·subst e;rcases hx with hx | hx
  ·obtain ⟨cs', fr, e⟩:=(h.own q hq).ta x hx;rw [hb] at e;injection e with e;injection e with _ h4 _;cases h4
  ·obtain ⟨cs', fr, e⟩:=(h.own q hq).tb x hx;rw [hb] at e;injection e with e;injection e with _ h4 _;cases h4
section
variable {s : Sto} {V : List Ob} {w wr wz : World} {all : List Nat} {x : Ob} {ob mb cb xb k : Nat} {A B : Option Addr} {ca cbb : Nat} {vL v8 : Value} {L : List Q4} {F : Int}
theorem snap_before (hS : SnapM s V w.heap.size w all k mb cb w.heap.size v8 wr) (hset : ∀ k, s.set k -> k < w.heap.size) (hR : RenO s V w all x wr ob A ca B cbb x.ws.length wz) (hX : RowsO wr w.heap.size vL L) (hxb : Blk wr xb 24 #[vL, .int .i64 F]) (hxl : w.heap.size < xb)
  (hc : checkM (renO all x) = true) (hb : ∀ v ∈ x.bs, 0 <= v /\ v <= 255) {cs : Array Value} :
  RowsO (wz.alloc (.cells cs 29)) w.heap.size vL L /\ OwnO (wz.alloc (.cells cs 29)) w.heap.size ⟨renO all x, A, ca, B, cbb⟩ /\ w.heap.size <= (wz.alloc (.cells cs 29)).heap.size /\ Blk (wz.alloc (.cells cs 29)) xb 24 #[vL, .int .i64 F] /\ SnapM s V w.heap.size w all k mb cb w.heap.size v8 (wz.alloc (.cells cs 29)):=by
 have hwl : w.heap.size <= wr.heap.size:=Nat.le_of_lt hS.res.lt;have hO:=hR.own hwl hc hb;obtain ⟨h1, h2, h3, h4, h5, h6⟩:=hR;have hal:=(Below.refl wz.heap.size wz).alloc (Nat.le_refl _) (.cells cs 29);have hS2:=hS.only h5 h4 (fun k h1 _ h3 => by have:=hset k h3; omega);refine ⟨(hX.only h5 (fun k h1 _ h3 => by have:=hset k h3; omega)).below hal, hO.only (only_of hal (fun _ => False)) (fun _ _ h => h), ?_, ((hxb.only h5 (fun h3 => by have:=hset _ h3; omega)).keep hal), hS2.below hset hal⟩;have:=h5.size;simp;omega
theorem snap_after {wy w9 : World} {v' : Value} {q : Q4} (hset : ∀ k, s.set k -> k < w.heap.size) (hS : SnapM s V w.heap.size w all k mb cb w.heap.size v8 wy) (hX : RowsO wy w.heap.size vL L) (hxb : Blk wy xb 24 #[vL, .int .i64 F]) (hxl : w.heap.size < xb)
  (hX9 : RowsO w9 w.heap.size v' (L ++ [q])) (hg : wy.grownBy w9 vL.ownBlock) :
  Blk w9 xb 24 #[vL, .int .i64 F] /\ SnapM s V w.heap.size w all k mb cb w.heap.size v8 (w9.setCell ⟨xb, 0, none⟩ v') /\ RowsO (w9.setCell ⟨xb, 0, none⟩ v') w.heap.size v' (L ++ [q]) /\ Blk (w9.setCell ⟨xb, 0, none⟩ v') xb 24 #[v', .int .i64 F]:=by
 have hoo : Only (fun k => some k = vL.ownBlock) wy w9:=only_of_row hg;have hty : ∀ k, some k = vL.ownBlock -> ∃ cs fr, wy.heap[k]? = some (.cells cs 29 fr):=fun k hk => by
  rcases hX.row.2 with ⟨e, _⟩ | ⟨g, cap, cur, e, _, hh, _⟩
  ·rw [e] at hk; simp [Value.ownBlock] at hk
  ·rw [e] at hk;simp [Value.ownBlock] at hk;exact ⟨cur, _, by rw [hk]; exact hh⟩
 have hnb : ∀ {g : Nat} {t : TypeId} {cs : Array Value}, Blk wy g t cs -> t ≠ 29 -> ¬ some g = vL.ownBlock:=fun hb ht e => by obtain ⟨cs, fr, hh⟩:=hty _ e;unfold Blk at hb;rw [hb] at hh;injection hh with hh;injection hh with _ h4 _;exact ht h4
 have hx9 : Blk w9 xb 24 #[vL, .int .i64 F]:=hxb.only hoo (hnb hxb (by decide));have ho2 : Only (fun k => k = xb) w9 (w9.setCell ⟨xb, 0, none⟩ v'):=(Only.refl (fun k => k = xb) w9).setCell (p:=⟨xb, 0, none⟩) (.inl rfl) _;have hoS : Only (fun k => some k = vL.ownBlock \/ k = xb) wy (w9.setCell ⟨xb, 0, none⟩ v'):=(hoo.mono (fun k hk => .inl hk)).trans (ho2.mono (fun k hk => .inr hk));refine ⟨hx9, ?_, hX9.setc hx9 ho2, by have:=hx9.set_ 0 v'; exact this⟩;obtain ⟨D, hM, hD⟩:=hS.map;have hmk : ∀ {g : Nat} {t : TypeId} {cs : Array Value}, Blk wy g t cs -> g ≠ mb:=fun hb e => by obtain ⟨es, clock, h2, _⟩:=hM;unfold Blk at hb;rw [e, h2] at hb;cases hb
 refine ⟨hS.st.step hset (hoS.mono (fun k hk => ?_)), hS.alls.onlyA hoS (fun k hk e => ?_), hS.cel.only hoS (fun e => ?_), hS.res.only hoS (fun e => ?_), hS.low, ⟨D, hM.keep hoS (fun e => ?_), hD⟩⟩
 ·rcases hk with hk | hk
  ·exact (hX.lt k hk.symm).1
  ·omega
 ·rcases e with e | e
  ·obtain ⟨cs, fr, hh⟩:=hty _ e;rcases hS.alls.2 with ⟨e1, _⟩ | ⟨g', cap', cur', e1, _, hh2, _⟩
   ·rw [e1] at hk; simp [Value.ownBlock] at hk
   ·rw [e1] at hk;simp [Value.ownBlock] at hk;rw [hk, hh] at hh2;injection hh2 with hh2;injection hh2 with _ h4 _;cases h4
  ·exact hxb.neI (by decide) hS.alls (e ▸ hk)
 ·rcases e with e | e
  ·exact hnb hS.cel (by decide) e
  ·have h1:=hS.cel;rw [e] at h1;unfold Blk at h1 hxb;rw [hxb] at h1;injection h1 with h1;injection h1 with _ h4 _;cases h4
 ·rcases e with e | e
  ·exact hnb hS.res (by decide) e
  ·omega
 ·rcases e with e | e
  ·obtain ⟨cs, fr, hh⟩:=hty _ e;obtain ⟨es, clock, h2, _⟩:=hM;rw [hh] at h2;cases h2
  ·exact hmk hxb e.symm
end
theorem ints_four {w : World} {A : Option Addr} {all : List Nat} (h : Ints w A (natI all)) (hf : ∀ j, j < 4 -> all[j]? = some (j + 1)) : Ints w A [1, 2, 3, 4] /\ 4 <= all.length:=by
 match all, hf, h with
 | [], hf, _ => have:=hf 0 (by omega); simp at this
 | [_], hf, _ => have:=hf 1 (by omega); simp at this
 | [_, _], hf, _ => have:=hf 2 (by omega); simp at this
 | [_, _, _], hf, _ => have:=hf 3 (by omega); simp at this
 | a :: b :: c :: d :: r, hf, h =>
  have h0:=hf 0 (by omega);have h1:=hf 1 (by omega);have h2:=hf 2 (by omega);have h3:=hf 3 (by omega);simp at h0 h1 h2 h3;subst h0 h1 h2 h3;refine ⟨fun p v hv => h p v ?_, by simp⟩;have hp : p < 4:=(List.getElem?_eq_some_iff.1 hv).1;show ([1, 2, 3, 4] ++ natI r)[p]? = some v
  rw [getElem?_append_left hp];exact hv
theorem Blk.set11 {w : World} {g : Nat} {t : TypeId} {x0 x1 : Value} (h : Blk w g t #[x0, x1]) (a b : Value) : Blk ((w.setCell ⟨g, 0, none⟩ a).setCell ⟨g, 1, none⟩ b) g t #[a, b]:=by have:=(h.set_ 0 a).set_ 1 b;exact this
theorem only_two (w : World) (g : Nat) (a b : Value) : Only (fun k => k = g) w ((w.setCell ⟨g, 0, none⟩ a).setCell ⟨g, 1, none⟩ b) :=
 (((Only.refl (fun k => k = g) w).setCell (p:=⟨g, 0, none⟩) (.inl rfl) a)).setCell (p:=⟨g, 1, none⟩) (.inl rfl) b
theorem Tabs.only {S : Nat -> Prop} {w w' : World} (h : Tabs w) (ho : Only S w w') (hS : ∀ k, k < 2 -> ¬ S k) : Tabs w':=by obtain ⟨⟨t, fr, h0⟩, t1, fr1, h1⟩:=h;exact ⟨⟨t, fr, (ho.block 0 (Array.getElem?_eq_some_iff.1 h0).1 (hS 0 (by omega))).trans h0⟩, t1, fr1, (ho.block 1 (Array.getElem?_eq_some_iff.1 h1).1 (hS 1 (by omega))).trans h1⟩
theorem snap_end {s : Sto} {V : List Ob} {w wr w7 : World} {all : List Nat} {k mb cb : Nat} {v8 vL : Value} {L : List Q4} {F : Int} (hset : ∀ k, s.set k -> k < w.heap.size) (hS : SnapM s V w.heap.size w all k mb cb w.heap.size v8 wr) (hX : RowsO wr w.heap.size vL L) (hb : Below wr.heap.size wr w7) :
  Blk w7 w.heap.size 24 #[.slice none 0 0, .int .i64 0] /\ RowsO ((w7.setCell ⟨w.heap.size, 0, none⟩ vL).setCell ⟨w.heap.size, 1, none⟩ (.int .i64 F)) w.heap.size vL L /\ NearW s V w.heap.size w ((w7.setCell ⟨w.heap.size, 0, none⟩ vL).setCell ⟨w.heap.size, 1, none⟩ (.int .i64 F)):=by
 have h7:=hS.below hset hb;have ho:=only_two w7 w.heap.size vL (.int .i64 F);exact ⟨h7.res, (hX.below hb).setc h7.res ho, h7.st.step hset (ho.mono (fun k e => by omega))⟩
end Go.Proofs.YtgaemfghpibeeaaGreatDoor
namespace Go.Proofs.YtgaemfghpibeeaaGreatDoor
open Go.RowKit
theorem getM_nil : getM [] 0 = (0, 2):=by decide +kernel
theorem num_nil (r : Nat) (b : Bool) (w : World) (h : Blk w r 205 #[.slice none 0 0, .bool b]) :
  Calls Tryz.prog 104 #[.pointer (some ⟨r, 0, none⟩)] w fun e w' => e = .returned (.int .i64 0) /\ Blk w' r 205 #[.slice none 0 0, .bool true] /\ Only (fun k => k = r) w w':=by
 have hg:=get_any w none [] 0 0 (by omega) (by simp) (Byts.nil _ _);rw [getM_nil] at hg;have c0:=h.cell 0;have c1:=h.cell 1;have cf:=h.frozen;simp only [qTa, qTb, qTc] at c0 c1;have hfin : Blk (w.setCell ⟨r, 1, none⟩ (.bool true)) r 205 #[.slice none 0 0, .bool true] /\ Only (fun k => k = r) w (w.setCell ⟨r, 1, none⟩ (.bool true)) :=
  ⟨by have:=h.set_ 1 (.bool true); exact this, (Only.refl (fun k => k = r) w).setCell (p:=⟨r, 1, none⟩) (.inl rfl) _⟩
 have HG:=hid hg;have HF:=hid hfin;clear hg hfin h;go_enter Tryz.func104, Tryz.ntmps104;go_wp2_with fail;refine HG.out.mono ?_;rintro e w2 ⟨rfl, rfl⟩;go_wp2_with fail;go_ret;exact ⟨rfl, HF.out⟩
theorem decode_nil (w : World) : Calls Tryz.prog 73 #[.slice none 0 0] w fun e w' => e = .returned (.tuple #[.agg #[.slice none 0 0, .int .i64 0], .int .i64 180]) /\ Below w.heap.size w w':=by
 have b0:=Blk.new w 24 #[.slice none 0 0, .int .i64 0];have b1:=Blk.new2 w (.cells #[.slice none 0 0, .int .i64 0] 24) 205 #[.slice none 0 0, .bool false];have ha:=((Below.refl w.heap.size w).alloc (Nat.le_refl _) (.cells #[.slice none 0 0, .int .i64 0] 24)).alloc (by simp) (.cells #[.slice none 0 0, .bool false] 205);have b0':=b0.alloc (.cells #[.slice none 0 0, .bool false] 205);have hn:=num_nil _ _ _ b1;have HN:=hid hn;have HA:=hid ha;have B0:=hid b0';clear hn b0 b1 ha b0';go_enter Tryz.func73, Tryz.ntmps73;go_wp2_with fail;refine HN.out.mono ?_;rintro e w2 ⟨rfl, hb2, ho2⟩;have hn2:=num_nil _ _ _ hb2;have x2:=B0.out.only ho2 (by omega);have hb2:=HA.out.trans (ho2.below (B:=w.heap.size) (by simp; omega) (by intro k hk; omega));have HN2:=hid hn2;have X2:=hid x2;have HB2:=hid hb2;clear hn2 x2 hb2 ho2;go_wp2_with fail;refine HN2.out.mono ?_;rintro e w3 ⟨rfl, hb3, ho3⟩;have x3:=(X2.out.only ho3 (by omega)).alloc (.cells #[.slice none 0 0, .int .i64 0] 24);have y3:=hb3.alloc (.cells #[.slice none 0 0, .int .i64 0] 24);have hb3':=HB2.out.trans (ho3.below (B:=w.heap.size) (by have:=HB2.out.size; omega) (by intro k hk; omega));have hb4:=hb3'.alloc hb3'.size (.cells #[.slice none 0 0, .int .i64 0] 24);have c1:=y3.cell 1;have xf:=x3.frozen;have x0:=x3.cell 0;have x1:=x3.cell 1;simp only [qTa, qTb, qTc] at c1 x0 x1;have X3:=hid x3;have hB:=(hb4.setCell (p:=⟨w.heap.size, 0, none⟩) (Nat.le_refl _) (.slice none 0 0)).setCell (p:=⟨w.heap.size, 1, none⟩) (Nat.le_refl _) (.int .i64 0);have HB:=hid hB;clear x3 y3 hb3 ho3 hb3' hb4 hB HN2;go_wp2_with fail;go_loopg [7] 0 (fun gk s7 wr => s7 = .int .i64 0 /\ wr = w3.alloc (.cells #[.slice none 0 0, .int .i64 0] 24))
 case atStart => exact ⟨rfl, rfl⟩
 case round =>
  obtain ⟨rfl, rfl⟩:=hrel;go_wp2_with fail
  try rw [Exit.noGoto_ret]
  refine bodyPost_ret (res_cell_tmp (P:=Tryz.prog) (fn:=Tryz.f73) rfl _ _ w.heap.size 24 _ (0, 0) _ rfl (X3.out.set11 _ _) Tryz.underlying24 rfl size24) rfl ?_;exact ⟨rfl, HB.out⟩
theorem sum_ab (w : World) (g : Nat) (c0 : w.cell? ⟨g, 0, none⟩ = some (.int .u8 97)) (c1 : w.cell? ⟨g, 1, none⟩ = some (.int .u8 98)) : Calls Tryz.prog 14 #[.slice (some ⟨g, 0, none⟩) 2 2] w fun e w' => e = .returned (.int .i64 3105) /\ w' = w:=by
 go_enter Tryz.func14, Tryz.ntmps14;go_wp2_with fail;go_loopg [3, 8] 2 (fun gk s3 s8 wr => wr = w /\ ((gk = 2 /\ s8 = .int .i64 0 /\ s3 = .int .i64 0) \/ (gk = 1 /\ s8 = .int .i64 1 /\ s3 = .int .i64 97) \/ (gk = 0 /\ s8 = .int .i64 2 /\ s3 = .int .i64 3105)))
 case atStart => exact ⟨rfl, .inl ⟨rfl, rfl, rfl⟩⟩
 case round =>
  obtain ⟨rfl, ⟨rfl, rfl, rfl⟩ | ⟨rfl, rfl, rfl⟩ | ⟨rfl, rfl, rfl⟩⟩:=hrel
  ·go_wp2_with fail;go_roundg 1
   case measure => omega
   case rel => exact ⟨rfl, .inr (.inl ⟨rfl, rfl, rfl⟩)⟩
  ·go_wp2_with fail;go_roundg 0
   case measure => omega
   case rel => exact ⟨rfl, .inr (.inr ⟨rfl, rfl, rfl⟩)⟩
  ·go_wp2_with fail;go_ret;exact ⟨rfl, rfl⟩
theorem begun_nil (v : Value) (w : World) : Calls Tryz.prog 44 #[.slice none 0 0, v] w fun e w' => e = .returned (.tuple #[.pointer none, .int .i64 180]) /\ Below w.heap.size w w':=by have hd:=decode_nil w;have HD:=hid hd;clear hd;go_enter Tryz.func44, Tryz.ntmps44;go_wp2_with fail;refine HD.out.mono ?_;rintro e w2 ⟨rfl, hb⟩;have hB:=hb.alloc hb.size (.cells #[.slice none 0 0, .int .i64 0] 24);have HB:=hid hB;clear hb hB;go_wp2_with fail;go_ret2;exact ⟨rfl, HB.out⟩
theorem flatvm_nil (w : World) : Calls Tryz.prog 13 #[.slice none 0 0] w fun e w' => e = .returned (.tuple #[.pointer none, .int .i64 180]) /\ Below w.heap.size w w':=by have hd:=flatNew_any w;have HD:=hid hd;clear hd;go_enter Tryz.func13, Tryz.ntmps13;go_wp2_with fail;refine HD.out.mono ?_;rintro e w2 ⟨P, rfl, -, -, hb⟩;have hbg:=begun_nil (.iface 40 (.pointer (some ⟨P.f, 0, none⟩))) w2;go_wp2_with fail;refine hbg.mono ?_;rintro e w3 ⟨rfl, hb3⟩;go_wp2_with fail;go_ret2;exact ⟨rfl, hb.trans (hb3.mono hb.size)⟩
theorem known_any (w : World) : Calls Tryz.prog 4 #[] w fun e w' => e = .returned (.bool true) /\ Below w.heap.size w w':=by have hd:=flatvm_nil w;have HD:=hid hd;clear hd;go_enter Tryz.func4, Tryz.ntmps4;go_wp2_with fail;refine HD.out.mono ?_;rintro e w2 ⟨rfl, hb⟩;have hs:=sum_ab (w2.alloc (.cells #[.int .u8 97, .int .u8 98] 5 (2, 3))) w2.heap.size (World.cell?_alloc_mark w2 _ 5 _ 0) (World.cell?_alloc_mark w2 _ 5 _ 1);have hB:=hb.alloc hb.size (.cells #[.int .u8 97, .int .u8 98] 5 (2, 3));have hcv:=Lib.run_convert_bytes_const (P:=Tryz.prog) w2 27 5 #[.int .u8 97, .int .u8 98] 2 2 Tryz.underlying27 Tryz.underlying5;have HS:=hid hs;have HB:=hid hB;clear hs hb hB;go_wp2_with fail;refine HS.out.mono ?_;rintro e w3 ⟨rfl, rfl⟩;go_wp2_with fail;go_ret;exact ⟨rfl, HB.out⟩
theorem same_ints (w : World) (A A' : Option Addr) (xs : List Int) (cap cap' : Nat) (hx : Ints w A xs) (hy : Ints w A' xs) (hl : xs.length <= 9223372036854775807) :
  Calls Tryz.prog 71 #[.slice A xs.length cap, .slice A' xs.length cap'] w fun e w' => e = .returned (.bool true) /\ Below w.heap.size w w':=by
 obtain ⟨n, hn⟩ : ∃ n, n = xs.length:=⟨_, rfl⟩;rw [<- hn] at hl ⊢;have HN:=hid hn;have HX:=hid hx;have HY:=hid hy;clear hn hx hy;go_enter Tryz.func71, Tryz.ntmps71;go_wp2_with fail;go_loopg [5] n (fun g s5 wr => ∃ j : Nat, j + g = n /\ s5 = .int .i64 j /\ Below w.heap.size w wr)
 case atStart => exact ⟨0, by omega, rfl, Below.refl _ _⟩
 case round =>
  obtain ⟨j, hj, rfl, hb⟩:=hrel;cases gk with
  | zero =>
   have hjn : ¬ ((j : Int) < n):=by omega
   go_wp2_with fail;go_ret;exact ⟨rfl, hb⟩
  | succ g =>
   have hjn : (j : Int) < n:=by omega
   obtain ⟨x, hxj⟩ : ∃ x, xs[j]? = some x:=⟨_, getElem?_eq_getElem (by have:=HN.out; omega)⟩;obtain ⟨_, b, off, rfl, _, c0⟩:=(HX.out.below hb) j x hxj;obtain ⟨_, b', off', rfl, _, c1⟩:=(HY.out.below hb) j x hxj;have HB:=hid hb;clear hxj hb;go_wp2_with fail;go_quiet (fail)
   go_wp2_with fail;go_roundg g
   case measure => omega
   case rel => exact ⟨j + 1, by omega, by go_num, below_drewN HB.out _⟩
theorem equal_ints (w : World) (A A' : Option Addr) (xs : List Int) (cap cap' : Nat) (hx : Ints w A xs) (hy : Ints w A' xs) (hl : xs.length <= 9223372036854775807) :
  Calls Tryz.prog 42 #[.slice A xs.length cap, .slice A' xs.length cap'] w fun e w' => e = .returned (.bool true) /\ Below w.heap.size w w':=by
 obtain ⟨n, hn⟩ : ∃ n, n = xs.length:=⟨_, rfl⟩;rw [<- hn] at hl ⊢;have HN:=hid hn;have HX:=hid hx;have HY:=hid hy;clear hn hx hy;go_enter Tryz.func42, Tryz.ntmps42;go_wp2_with fail;go_loopg [13] n (fun g s13 wr => ∃ j : Nat, j + g = n /\ s13 = .int .i64 j /\ Below w.heap.size w wr)
 case atStart => exact ⟨0, by omega, rfl, Below.refl _ _⟩
 case round =>
  obtain ⟨j, hj, rfl, hb⟩:=hrel;cases gk with
  | zero =>
   have hjn : ¬ ((j : Int) < n):=by omega
   go_wp2_with fail;go_ret;exact ⟨rfl, hb⟩
  | succ g =>
   have hjn : (j : Int) < n:=by omega
   obtain ⟨x, hxj⟩ : ∃ x, xs[j]? = some x:=⟨_, getElem?_eq_getElem (by have:=HN.out; omega)⟩;obtain ⟨_, b, off, rfl, _, c0⟩:=(HX.out.below hb) j x hxj;obtain ⟨_, b', off', rfl, _, c1⟩:=(HY.out.below hb) j x hxj;have HB:=hid hb;clear hxj hb;go_wp2_with fail;go_quiet (fail)
   go_wp2_with fail;go_roundg g
   case measure => omega
   case rel => exact ⟨j + 1, by omega, by go_num, below_drewN HB.out _⟩
theorem same_objs (o : Ob) (A A' : Option Addr) (ca ca' : Nat) (B B' : Option Addr) (cb cb' : Nat) (w : World) (hO : ObR w o A ca B cb) (hO' : ObR w o A' ca' B' cb') :
  Calls Tryz.prog 43 #[.agg (obV o A ca B cb), .agg (obV o A' ca' B' cb')] w fun e w' => e = .returned (.bool true) /\ Below w.heap.size w w':=by
 have hal:=(((Below.refl w.heap.size w).alloc (Nat.le_refl _) (.cells (obV o A ca B cb) 29)).alloc (by simp) (.cells (obV o A' ca' B' cb') 29));have hs1:=fun W (hb : Below w.heap.size w W) => same_ints W A A' o.ws ca ca' (hO.ints.below hb) (hO'.ints.below hb) (Nat.le_trans hO.la hO.ca63);have hs2:=fun W (hb : Below w.heap.size w W) => same_bytes W B B' o.bs cb cb' (hO.byts.below hb) (hO'.byts.below hb);have b0:=(Blk.new w 29 (obV o A ca B cb)).alloc (.cells (obV o A' ca' B' cb') 29);have b1:=Blk.new2 w (.cells (obV o A ca B cb) 29) 29 (obV o A' ca' B' cb');unfold obV at *;obtain ⟨n1, hn1⟩ : ∃ n, n = o.ws.length:=⟨_, rfl⟩;obtain ⟨n2, hn2⟩ : ∃ n, n = o.bs.length:=⟨_, rfl⟩;rw [<- hn1, <- hn2] at hal b0 b1 ⊢;rw [<- hn1] at hs1;rw [<- hn2] at hs2;have c0:=b0.cell 0;have c1:=b0.cell 1;have c2:=b0.cell 2;have c3:=b0.cell 3;have d0:=b1.cell 0;have d1:=b1.cell 1;have d2:=b1.cell 2;have d3:=b1.cell 3;simp only [qTa, qTb, qTc] at c0 c1 c2 c3 d0 d1 d2 d3;have e1 : (o.cls == o.cls) = true:=by simp
 have e2 : (o.kind == o.kind) = true:=by simp
 have HS1:=hid hs1;have HS2:=hid hs2;have HAL:=hid hal;have B0:=hid b0;have B1:=hid b1;clear hs1 hs2 hal b0 b1 hO hO' hn1 hn2;go_enter Tryz.func43, Tryz.ntmps43;go_wp2_with fail;refine (HS1.out _ HAL.out).mono ?_;rintro e w2 ⟨rfl, hb⟩;have HB:=hid (HAL.out.trans (hb.mono HAL.out.size));have y0:=B0.out.keep hb;have y1:=B1.out.keep hb;have c3:=y0.cell 3;have d3:=y1.cell 3;simp only [qTa, qTb, qTc] at c3 d3;clear hb HAL y0 y1 B0 B1;go_wp2_with fail;refine (HS2.out _ HB.out).mono ?_;rintro e w3 ⟨rfl, rfl⟩;go_wp2_with fail;go_ret;exact ⟨rfl, HB.out⟩
end Go.Proofs.YtgaemfghpibeeaaGreatDoor
namespace Go.Proofs.YtgaemfghpibeeaaGreatDoor
open Go.RowKit Go.Maps
def SnapPost (s : Sto) (V : List Ob) (f : Int) (R : List Int) (w : World) (e : Ending) (w' : World) : Prop :=
 ∃ A cap all L, e = .returned (.tuple #[.agg #[.slice A (snapV all V).length cap, .int .i64 (renF all f)], .int .i64 0]) /\ Near V R all /\ RowsO w' w.heap.size (.slice A (snapV all V).length cap) L /\ L.map (·.o) = snapV all V /\ NearW s V w.heap.size w w'
theorem NearW.mono {s : Sto} {V : List Ob} {B B' : Nat} {w w2 : World} (h : NearW s V B w w2) (hB : B' <= B) : NearW s V B' w w2:=by obtain ⟨s', h1, h2, h3, h4, h5⟩:=h;exact ⟨s', h1, h2, h3, h4, h5.mono (fun k hk => hk.imp id (fun h => Nat.le_trans hB h))⟩
theorem NearW.from {s : Sto} {V : List Ob} {B : Nat} {w w2 w3 : World} (h : NearW s V B w2 w3) (ho : Only (fun k => B <= k) w w2) : NearW s V B w w3:=by obtain ⟨s', h1, h2, h3, h4, h5⟩:=h;exact ⟨s', h1, h2, h3, h4, (ho.mono (fun k hk => .inr hk)).trans h5⟩
theorem snap_any (s : Sto) (V : List Ob) (f : Int) (Rts : List Nat) (RA : Option Addr) (rcap : Nat) (w : World) (h : s.Rep w V) (hv : Valid jumpsM V f) (hvb : ∀ x ∈ V, ∀ b ∈ x.bs, 0 <= b /\ b <= 255) (hRI : Ints w RA (refI Rts)) (hRn : RA = none -> rcap = 0) (hRb : ∀ i ∈ Rts, 1 <= i /\ i <= V.length) (hRl : Rts.length <= 2000) (htab : Tabs w) (hts : ∀ k, s.set k -> 2 <= k) :
  Calls Tryz.prog 9 #[s.val, .int .i64 f, .slice RA Rts.length rcap] w (SnapPost s V f ([2, 4, 6, 8, f] ++ refI Rts) w):=by
 have hset:=Sto.lt h;obtain ⟨fid, hfid, hf1, hf2⟩ : ∃ fid : Nat, f = 2 * (fid : Int) /\ 1 <= fid /\ fid <= V.length:=by obtain ⟨h1, h2⟩:=hv.fr;obtain ⟨h3, h4, h5, h6⟩:=namM_ok h1;exact ⟨(namM f).1.toNat, by omega, by omega, by omega⟩
 have hV:=hv.n2000;have h4:=hv.n4;obtain ⟨T0, hT0⟩ : ∃ T0, T0 = [1, 2, 3, 4, fid] ++ Rts:=⟨_, rfl⟩;have hRT : [2, 4, 6, 8, f] ++ refI Rts = refI T0:=by rw [hT0, hfid]; simp [refI]
 have hTb : ∀ i ∈ T0, 1 <= i /\ i <= V.length:=by
  intro i hi;rw [hT0] at hi;simp only [List.mem_append, List.mem_cons, List.not_mem_nil, or_false] at hi;rcases hi with (rfl | rfl | rfl | rfl | rfl) | hi
  ·omega
  ·omega
  ·omega
  ·omega
  ·exact ⟨hf1, hf2⟩
  ·exact hRb i hi
 have hTl : T0.length <= 5000:=by rw [hT0]; simp; omega
 rw [hRT];have b0:=Blk.new w 24 #[.slice none 0 0, .int .i64 0];have hal:=(Below.refl w.heap.size w).alloc (Nat.le_refl _) (.cells #[.slice none 0 0, .int .i64 0] 24);have hal2:=hal.alloc (by simp) (.cells #[.int .i64 2, .int .i64 4, .int .i64 6, .int .i64 8, .int .i64 f] 3);have ho : OwnsI ((w.alloc (.cells #[.slice none 0 0, .int .i64 0] 24)).alloc (.cells #[.int .i64 2, .int .i64 4, .int .i64 6, .int .i64 8, .int .i64 f] 3)) (w.heap.size + 1) (.slice (some ⟨w.heap.size + 1, 0, none⟩) 5 5) [2, 4, 6, 8, f] :=
  OwnsI.of_blk (xs:=[2, 4, 6, 8, f]) (Blk.new2 w _ 3 _) (by omega) (by simp) (by omega) rfl rfl
 have hRI2:=hRI.below hal2;have hrl:=refI_length Rts;have hnr:=fun v w' (hW : s.Rep w' V) (hB : w.heap.size + 1 <= w'.heap.size) (ho : OwnsI w' (w.heap.size + 1) v (refI T0)) => near_any s V T0 v (w.heap.size + 1) w' hW (fun k hk => Nat.lt_succ_of_lt (hset k hk)) hB (hv.named) hvb hTb hTl ho;have hfd:=s.finds;rw [Sto.val_eq] at hnr ⊢;obtain ⟨TY, hTY⟩ : ∃ T, T = s.ty:=⟨_, rfl⟩;obtain ⟨rv, hrv⟩ : ∃ r, r = s.recv:=⟨_, rfl⟩;obtain ⟨f5, hf5⟩ : ∃ r, r = s.pick 162 234:=⟨_, rfl⟩;rw [<- hTY, <- hrv, <- hf5] at hfd;rw [<- hTY, <- hrv] at hnr ⊢;have m5:=hfd.obj;have k5:=hfd.nobj;have g5:=hfd.cobj;have HNR:=hid hnr;have H:=hid h;have HV:=hid hv;have HVB:=hid hvb;have HSET:=hid hset;have HTAB:=hid htab;have HTS:=hid hts;have HRV:=hid hrv;have HF5:=hid hf5;have HRT:=hid hRT;have HRT2:=hid hRT;have HO:=hid ho;have HAL2:=hid hal2;have B0:=hid b0;have HRI2:=hid hRI2;have HRN:=hid hRn;have HFID:=hid hfid;clear hnr h hv hvb hset htab hts hTY hrv hf5 hfd hRT ho hal hal2 b0 hRI hRI2 hRn hRb hT0 hTb hTl hfid;obtain ⟨m, hm⟩ : ∃ m, m = Rts.length:=⟨_, rfl⟩;rw [<- hm] at hRl hrl ⊢;have HM:=hid hm;clear hm;go_enter Tryz.func9, Tryz.ntmps9;go_wp2_with (at_builtin; refine append_ints rfl _ _ rfl (w.heap.size + 1) _ [2, 4, 6, 8, f] rfl HO.out RA (refI Rts) m _ hrl.symm rfl HRI2.out HRN.out (by simp; omega) (by rw [World.size_alloc, World.size_alloc]; omega) ?_)
 intro v2 w2 ho2 hg2;have hob2 : Only (fun k => w.heap.size <= k) w w2:=(only_of HAL2.out _).trans (only_grownB hg2 (fun k hk => by simp [Value.ownBlock] at hk; omega));have hb2 : Below w.heap.size w w2:=hob2.below (Nat.le_refl _) (fun k hk => hk);have hnr:=HNR.out v2 w2 (Sto.below H.out hb2) (by have:=hg2.size; simp at this; omega) (by
  rw [<- HRT.out];exact ho2)
 have x2:=(B0.out.alloc (.cells #[.int .i64 2, .int .i64 4, .int .i64 6, .int .i64 8, .int .i64 f] 3)).grown hg2 (fun e => by simp [Value.ownBlock] at e);have HNR2:=hid hnr;have X2:=hid x2;have HOB2:=hid hob2;clear hnr ho2 hg2 hb2 x2 hob2 HNR H HO HAL2 B0 HRI2 HRN HRT HFID HM;go_wp2_with fail;refine HNR2.out.mono ?_;rintro e w3 ⟨v8, all, rfl, hnear, hall, hst⟩;have x3:=X2.out.only hst.only (fun e => by
  rcases e with e | e
  ·have:=HSET.out _ e; omega
  ·omega)
 have hst3:=(hst.mono (B':=w.heap.size) (by omega)).from HOB2.out;have hall3:=hall.mono (B':=w.heap.size) (by omega);obtain ⟨hav, hal4⟩ : (∀ x ∈ natI all, -9223372036854775808 <= x /\ x <= 9223372036854775807) /\ all.length <= 2000:=by refine ⟨fun x hx => ?_, Nat.le_trans hnear.length hV⟩;obtain ⟨i, hi, rfl⟩:=List.mem_map.1 hx;have:=hnear.bd i hi;omega
 obtain ⟨A8, cap8, rfl, hlc8, hc8, hI8, -⟩:=hall3.reads hav;rw [natI_length] at hlc8 ⊢;obtain ⟨k, hk⟩ : ∃ k, k = all.length:=⟨_, rfl⟩;have hsl : (Value.slice A8 (natI all).length cap8) = .slice A8 k cap8:=by rw [natI_length, hk]
 rw [hsl] at hall3;rw [<- hk] at hlc8 hal4 ⊢;have hmm:=@run_makeMap Tryz.prog;have hb4:=(Below.refl w3.heap.size w3).alloc (Nat.le_refl _) (.map #[] 0);have hb5:=hb4.alloc (by simp) (.cells #[.map (some w3.heap.size)] 100);have hw3 : w.heap.size <= w3.heap.size:=hst3.only.size;have sm0 : SnapM s V w.heap.size w all 0 w3.heap.size (w3.heap.size + 1) w.heap.size (.slice A8 k cap8) ((w3.alloc (.map #[] 0)).alloc (.cells #[.map (some w3.heap.size)] 100)) :=
  ⟨hst3.step HSET.out (only_of hb5 _), hall3.keep hb5, Blk.new2 w3 _ 100 _, x3.keep hb5, ⟨by omega, by omega, by omega⟩, ⟨_, (MapAt.made w3 3).keep ((Only.refl (fun _ => False) _).alloc _) (fun h => h), FreshD.start all⟩⟩
 have hOw3:=hst3.only;obtain ⟨mb, hmb⟩ : ∃ mb, mb = w3.heap.size:=⟨_, rfl⟩;rw [<- hmb] at sm0;have SM0:=hid sm0;have HN:=hid hnear;have HMB:=hid hmb;have HK:=hid hk;clear sm0 hnear hmb hk hst hst3 hall hall3 x3 hav hI8 hsl hb4 hb5 hw3 HNR2 X2 HOB2 hOw3;go_wp2_with fail;rw [<- HMB.out];obtain ⟨w4, hw4⟩ : ∃ w4, w4 = (w3.alloc (.map #[] 0)).alloc (.cells #[.map (some mb)] 100):=⟨_, rfl⟩;have sm1 : Aside (SnapM s V w.heap.size w all 0 mb (mb + 1) w.heap.size (.slice A8 k cap8) w4):=by rw [hw4];exact SM0.out
 rw [<- hw4];have halb : ∀ j i : Nat, all[j]? = some i -> 1 <= i /\ i <= 2000:=fun j i hi => by have:=HN.out.bd i (mem_of_getElem? hi);omega
 have HALB:=hid halb;clear hw4 SM0 HMB halb;go_loopg [31] k (fun gk s31 wr => ∃ j : Nat, j + gk = k /\ s31 = .int .i64 j /\ Aside (SnapM s V w.heap.size w all j mb (mb + 1) w.heap.size (.slice A8 k cap8) wr))
 case atStart => exact ⟨0, by omega, rfl, sm1⟩
 case round =>
  clear sm1;obtain ⟨j, hj, rfl, hS⟩:=hrel;cases gk with
  | zero =>
   have hjn : ¬ ((j : Int) < k):=by omega
   obtain rfl : k = j:=by omega
   have hxl0 : w.heap.size < wr.heap.size:=hS.out.res.lt;have hnf : (numM f).2 = false /\ renM all f = renF all f /\ ∃ p, idxA all f = some p:=by
    obtain ⟨g1, g2⟩:=near_four HV.out (R:=refI Rts) (by rw [HRT2.out]; exact HN.out);obtain ⟨p, hp, e1, e2⟩:=renM_named HN.out.rise HV.out.fr.1 g2;obtain ⟨a1, a2, a3, a4⟩:=namM_ok HV.out.fr.1;have e3 : f = 2 * ((namM f).1.toNat : Int):=by omega
    exact ⟨numM_even a2, by rw [e1, e2], p, by rw [e3]; exact idxA_at HN.out.rise hp⟩
   obtain ⟨hnf1, hnf2, p, hp⟩:=hnf;obtain ⟨D, hM, hD⟩:=hS.out.map;have c0:=hS.out.cel.cell 0;simp only [qTa, qTb] at c0;have hDk : FreshD all all.length D:=by rw [<- HK.out]; exact hD
   have hfb : -9223372036854775808 <= f /\ f <= 9223372036854775807:=by obtain ⟨a1, a2, a3, a4⟩:=namM_ok HV.out.fr.1;omega
   have hren:=ren_any all D (mb + 1) mb f wr c0 hM hDk hfb;rw [hnf2] at hren;obtain ⟨F, hF⟩ : ∃ F, F = renF all f:=⟨_, rfl⟩;rw [<- hF] at hren;have hS2:=fun (x : World) (hb : Below wr.heap.size wr x) => hS.out.below HSET.out hb;have hb5:=(Below.refl wr.heap.size wr).alloc (Nat.le_refl _) (.cells #[.slice none 0 0, .int .i64 F] 24);have hS5:=hS2 _ hb5;obtain ⟨D5, hM5, hD5⟩:=hS5.map;obtain ⟨v5, hrun, hv5⟩:=hM5.look2 law3 Tryz.underlying100 (z:=.int .i64 0) (by kernel_rfl) (keyI hfb);have hhas : Maps.has D5 (.int .i64 f) = true:=by
    rw [HK.out] at hD5;rcases hD5.get f with ⟨_, _, h2, _⟩ | ⟨h1, _⟩
    ·exact h2
    ·rw [hp] at h1; cases h1
   rw [hhas] at hrun;have c5:=hS5.cel.cell 0;simp only [qTa, qTb] at c5;have x5:=Blk.new wr 24 #[.slice none 0 0, .int .i64 F];have HREN:=hid hren;have HF:=hid hF;have HS5:=hid hS5;have X5:=hid x5;clear hnf1 hnf2 hp hM hD hDk hren hF hS2 hb5 hS5 hM5 hD5 hv5 hhas hS x5;go_wp2_with fail;refine HREN.out.mono ?_;rintro e w5 ⟨rfl, rfl⟩;go_wp2_with fail;obtain ⟨w5, hw5⟩ : ∃ w5, w5 = wr.alloc (.cells #[.slice none 0 0, .int .i64 F] 24):=⟨_, rfl⟩;obtain ⟨xb, hxb⟩ : ∃ xb, xb = wr.heap.size:=⟨_, rfl⟩;have st5 : Aside (SnapM s V w.heap.size w all k mb (mb + 1) w.heap.size (.slice A8 k cap8) w5):=by rw [hw5]; exact HS5.out
   have sx5 : Aside (∃ vL L, RowsO w5 w.heap.size vL L /\ L.map (·.o) = (snapV all V).take 0 /\ Blk w5 xb 24 #[vL, .int .i64 F]) :=
    ⟨_, [], RowsO.nil _ _, rfl, by rw [hw5, hxb]; exact X5.out⟩
   have hxl : w.heap.size < xb:=by rw [hxb]; exact hxl0
   rw [<- hw5, <- hxb];clear hw5 hxb HS5 X5 HREN hrun c0 c5 hxl0;go_loopg [59] k (fun gk s59 wz => ∃ j : Nat, j + gk = k /\ s59 = .int .i64 j /\ Aside (SnapM s V w.heap.size w all k mb (mb + 1) w.heap.size (.slice A8 k cap8) wz) /\ Aside (∃ vL L, RowsO wz w.heap.size vL L /\ L.map (·.o) = (snapV all V).take j /\ Blk wz xb 24 #[vL, .int .i64 F]))
   case atStart => exact ⟨0, by omega, rfl, st5, sx5⟩
   case round =>
    clear st5 sx5;obtain ⟨j, hj, rfl, hS, hX⟩:=hrel;cases gk with
    | zero =>
     have hjn : ¬ ((j : Int) < k):=by omega
     obtain rfl : k = j:=by omega
     obtain ⟨vL, L, hXr, hXm, hXb⟩:=hX.out;obtain ⟨g1, -⟩:=near_four HV.out (R:=refI Rts) (by rw [HRT2.out]; exact HN.out);have hf4:=rise_first all HN.out.rise (fun i hi => (HN.out.bd i hi).1) 4 g1;obtain ⟨A9, cap9, e9, -, -, hI9, -⟩:=hS.out.alls.reads (fun x hx => by obtain ⟨y, hy, rfl⟩:=List.mem_map.1 hx;obtain ⟨p, hp⟩:=List.getElem?_of_mem hy;have:=HALB.out p y hp;omega)
     injection e9 with e9 e11 e10;subst e9;subst e10;clear e11;obtain ⟨hI4, hk4⟩:=ints_four hI9 hf4;rw [<- HK.out] at hk4;have hal9:=(Below.refl wr.heap.size wr).alloc (Nat.le_refl _) (.cells #[.int .i64 1, .int .i64 2, .int .i64 3, .int .i64 4] 3);have heq : Calls Tryz.prog 42 #[.slice A8 4 cap8, .slice (some ⟨wr.heap.size, 0, none⟩) 4 4] (wr.alloc (.cells #[.int .i64 1, .int .i64 2, .int .i64 3, .int .i64 4] 3)) _:=equal_ints (wr.alloc (.cells #[.int .i64 1, .int .i64 2, .int .i64 3, .int .i64 4] 3)) A8 (some ⟨wr.heap.size, 0, none⟩) [1, 2, 3, 4] cap8 4 (hI4.below hal9) (Ints.of_blk (xs:=[1, 2, 3, 4]) (Blk.new wr 3 _) (by intro v hv; simp at hv; omega)) (by simp);have hlen : (snapV all V).length = k:=by rw [snapV_length, <- HK.out]
     rw [take_of_length_le (by omega)] at hXm;have hLk : L.length = k:=by rw [<- hlen, <- hXm, List.length_map]
     obtain ⟨A7, cap7, rfl, hlc7, hc7, -⟩:=hXr.slice;have hobj:=hXr.objs;rw [hXm] at hobj;obtain ⟨hval, -⟩:=law_valid HV.out (R:=refI Rts) (by rw [HRT2.out]; exact HN.out);have hwl : w.heap.size < wr.heap.size:=hS.out.res.lt;have hw1 : 1 < w.heap.size:=HTAB.out.lt;have htabr : Tabs wr:=HTAB.out.only hS.out.st.only (fun k hk h => by
      rcases h with h | h
      ·have:=HTS.out k h; omega
      ·omega)
     have hchk : ∀ W, Below wr.heap.size wr W -> Calls Tryz.prog 19 #[.agg #[.slice A7 k cap7, .int .i64 F]] W (fun e w' => Below W.heap.size W w' /\ e = .returned (.int .i64 0)):=fun W hb => by
      have:=chk_any (snapV all V) A7 cap7 F wr W hobj hb (by omega) (htabr.below hb (by omega));rw [hlen] at this;refine this.mono (fun e w' h => ⟨h.1, ?_⟩);rcases h.2 with ⟨_, h⟩ | ⟨h, _⟩
      ·exact h
      ·rw [HF.out] at h; exact absurd hval h
     rw [hLk] at hXr hXb;have hend : ∀ w7, Below wr.heap.size wr w7 -> Blk w7 w.heap.size 24 #[.slice none 0 0, .int .i64 0] /\ SnapPost s V f (refI T0) w (.returned (.tuple #[.agg #[.slice A7 k cap7, .int .i64 F], .int .i64 0])) ((w7.setCell ⟨w.heap.size, 0, none⟩ (.slice A7 k cap7)).setCell ⟨w.heap.size, 1, none⟩ (.int .i64 F)):=fun w7 hb => by
      obtain ⟨h1, h2, h3⟩:=snap_end (F:=F) HSET.out hS.out hXr hb;refine ⟨h1, A7, cap7, all, L, ?_, HN.out, ?_, hXm, h3⟩
      ·rw [hlen, HF.out]
      ·rw [hlen]; exact h2
     have HEQ:=hid heq;have HCHK:=hid hchk;have HEND:=hid hend;have HXB:=hid hXb;have HAL9:=hid hal9;have y0:=hXb.cell 0;have y1:=hXb.cell 1;simp only [qTa, qTb, qTc] at y0 y1;clear hS hX hXr hXm hXb g1 hf4 hI9 hI4 hal9 heq hlen hLk hobj hval htabr hchk hend y0 y1;go_wp2_with fail;refine HEQ.out.mono ?_;rintro e w6 ⟨rfl, hb6⟩;have hb6:=HAL9.out.trans (hb6.mono HAL9.out.size);have z6:=HXB.out.keep hb6;have y0:=z6.cell 0;have y1:=z6.cell 1;simp only [qTa, qTb, qTc] at y0 y1;have HCHK6:=hid (HCHK.out w6 hb6);have HB6:=hid hb6;clear hb6 z6;go_wp2_with fail;refine HCHK6.out.mono ?_;rintro e w7 ⟨hb7, rfl⟩;have hb7:=HB6.out.trans (hb7.mono HB6.out.size);have z7:=HXB.out.keep hb7;clear y0 y1;have y0:=z7.cell 0;have y1:=z7.cell 1;obtain ⟨z8, hfin⟩:=HEND.out w7 hb7;have yf:=z8.frozen;have y2:=z8.cell 0;have y3:=z8.cell 1;simp only [qTa, qTb, qTc] at y0 y1 y2 y3;have Z8:=hid z8;have HFIN:=hid hfin;clear hb7 z7 z8 hfin;go_wp2_with fail
     try rw [Exit.noGoto_ret]
     refine bodyPost_ret (res_cell_tmp (P:=Tryz.prog) (fn:=Tryz.f9) rfl _ _ w.heap.size 24 _ (0, 0) _ rfl (Z8.out.set11 _ _) Tryz.underlying24 rfl size24) rfl HFIN.out
    | succ g =>
     have hjn : (j : Int) < k:=by omega
     obtain ⟨i, hi⟩ : ∃ i, all[j]? = some i:=⟨_, getElem?_eq_getElem (by have:=HK.out; omega)⟩;obtain ⟨i1, i2⟩:=HALB.out j i hi;obtain ⟨A9, cap9, e9, -, -, hI9, -⟩:=hS.out.alls.reads (fun x hx => by obtain ⟨y, hy, rfl⟩:=List.mem_map.1 hx;obtain ⟨p, hp⟩:=List.getElem?_of_mem hy;have:=HALB.out p y hp;omega)
     injection e9 with e9 e11 e10;subst e9;subst e10;clear e11;obtain ⟨_, b, off, rfl, _, q0⟩:=hI9 j (i : Int) (by simp [natI, hi]);obtain ⟨x, hx, hxd, hxm⟩:=HN.out.get hi;obtain ⟨q, rfl⟩ : ∃ q, i = q + 1:=⟨i - 1, by omega⟩;rw [Nat.add_sub_cancel] at hx;have hck:=HV.out.check x hxm;have hvbx:=HVB.out x hxm;have hbz:=below_drew ((Below.refl wr.heap.size wr).alloc (Nat.le_refl _) (.cells zeroO 29));have bz:=(Blk.new wr 29 zeroO).drew;have hwl : w.heap.size <= wr.heap.size:=hS.out.st.only.size;have hob:=(hS.out.below HSET.out (below_drew (Below.refl _ wr))).st.obj hx;have hob2:=(hS.out.below HSET.out hbz).st.obj hx;rw [<- HRV.out, <- HF5.out] at hob hob2;have hta:=fun A2 ca2 B2 cb2 w6 hF hW hO => told_a (s:=s) (V:=V) (w:=w) (wr:=wr) (x:=x) (A:=A2) (B:=B2) (ca:=ca2) (cb:=cb2) (w6:=w6) HSET.out hF hW hO;have htb:=fun A2 ca2 B2 cb2 w6 hF hW hO => told_b (s:=s) (V:=V) (w:=w) (wr:=wr) (x:=x) (A:=A2) (B:=B2) (ca:=ca2) (cb:=cb2) (w6:=w6) HSET.out hwl hF hW hO;have hpar:=fun (W W' : World) (y : Value) (hF : FreshO x W y W') => hF.parts hck hvbx;have ho1:=fun W => oop_any ((q + 1 : Nat) : Int) W;rw [oopM_at (by omega) (by omega), show 2 * ((q + 1 : Nat) : Int) = 2 * ((q : Int) + 1) by omega] at ho1;obtain ⟨TD, hTD⟩ : ∃ TD, TD = ToldO s V w x wr:=⟨_, rfl⟩;rw [<- hTD] at hta htb;unfold obV at hpar hta htb;unfold zeroO at hob2 bz hbz htb;obtain ⟨n1, hn1⟩ : ∃ n, n = x.ws.length:=⟨_, rfl⟩;obtain ⟨n2, hn2⟩ : ∃ n, n = x.bs.length:=⟨_, rfl⟩;obtain ⟨xc, hxc⟩ : ∃ n, n = x.cls:=⟨_, rfl⟩;obtain ⟨xk, hxk⟩ : ∃ n, n = x.kind:=⟨_, rfl⟩;rw [<- hn1, <- hn2, <- hxc, <- hxk] at hpar;simp only [<- hn1, <- hn2, <- hxc, <- hxk] at hta htb;have HN1:=hid hn1;have HN2:=hid hn2;have HXC:=hid hxc;have HXK:=hid hxk;have BZ:=hid bz;have HBZ:=hid hbz;have HOB:=hid hob;have HOB2:=hid hob2;have HTA:=hid hta;have HTB2:=hid htb;have HTD:=hid hTD;have HPAR:=hid hpar;have HO1:=hid ho1;have HS:=hid hS.out;have HX:=hid hX.out;have HI:=hid hi;have HXD:=hid hxd;have HCK:=hid hck;have HVX:=hid hvbx;have HXV:=hid hx;clear hob hob2 hpar ho1 hS hX hI9 hi bz hbz hta htb hTD hn1 hn2 hxc hxk hxd hck hvbx hx hxm;go_upto_region 16 with (fail);go_cut [18, 19] from 63 to 72 (fun s18 s19 wx => ∃ (ob : Nat) (A2 : Option Addr) (ca2 : Nat) (B2 : Option Addr) (cb2 : Nat), s18 = .pointer (some ⟨ob, 0, none⟩) /\ s19 = .int .i64 0 /\ Aside (TD ob A2 ca2 B2 cb2 wx))
     case first =>
      go_region_held3 (fun _ => True) (exact True.intro)
       (first | (go_at_call 39; refine (HO1.out _).mono ?_; rintro e w6 ⟨rfl, rfl⟩) | (refine HOB.out.mono ?_; rintro e w6 ⟨y, rfl, hF, hW6, hO6⟩; obtain ⟨A2, ca2, B2, cb2, rfl, hR2, -, -, -, -⟩:=HPAR.out _ _ y hF) | (refine HOB2.out.mono ?_; rintro e w6 ⟨y, rfl, hF, hW6, hO6⟩; obtain ⟨A2, ca2, B2, cb2, rfl, hR2, -, -, -, -⟩:=HPAR.out _ _ y hF; have y6:=BZ.out.only hO6 (fun e => by have:=HSET.out _ e; omega); have e0:=y6.cell 0; have e1:=y6.cell 1; have e2:=y6.cell 2; have e3:=y6.cell 3; have ef:=y6.frozen; simp only [qTa, qTb, qTc] at e0 e1 e2 e3))
      all_goals
       go_wp2_with fail;go_meet
       first
       | exact ⟨w6.heap.size, A2, ca2, B2, cb2, rfl, rfl, HTA.out A2 ca2 B2 cb2 w6 hF hW6 hO6⟩
       | exact ⟨wr.heap.size, A2, ca2, B2, cb2, rfl, rfl, HTB2.out A2 ca2 B2 cb2 w6 hF hW6 hO6⟩
     obtain ⟨ob, A2, ca2, B2, cb2, rfl, rfl, hTO⟩:=hcut;have hTO2:=hTO.out;rw [HTD.out] at hTO2;have hR0:=RenO.start (all:=all) hTO2 HSET.out hwl;have bo:=hTO2.1;obtain ⟨vL, L, hXr, hXm, hXb⟩:=HX.out;have sm9:=HS.out.only hTO2.2.2.2.2.1 hTO2.2.2.2.1 (fun k h1 _ h3 => by have:=HSET.out k h3; omega);obtain ⟨D, hM, hD⟩:=sm9.map;have c0:=sm9.cel.cell 0;simp only [qTa, qTb] at c0;have hcb : -9223372036854775808 <= x.cls /\ x.cls <= 9223372036854775807:=by have:=checkM_bd HCK.out x.cls (by simp);omega
     have hDk : FreshD all all.length D:=by rw [<- HK.out]; exact hD
     have hren:=ren_any all D (mb + 1) mb x.cls wc c0 hM hDk hcb;obtain ⟨nc, hnc⟩ : ∃ n, n = renM all x.cls:=⟨_, rfl⟩;rw [<- hnc, <- HXC.out] at hren;rw [<- hnc] at hR0;unfold obV at bo;rw [<- HXC.out, <- HXK.out, <- HN1.out, <- HN2.out] at bo;have o0:=bo.cell 0;have of:=bo.frozen;simp only [qTa, qTb] at o0;have sr0 : Aside (RenO s V w all x wr ob A2 ca2 B2 cb2 0 (wc.setCell ⟨ob, 0, none⟩ (.int .i64 nc))):=by rw [hnc]; rw [hnc] at hR0; exact hR0
     have br0:=sr0.out.1;rw [<- HXK.out, <- HN1.out, <- HN2.out] at br0;have r2:=br0.cell 2;simp only [qTa, qTb, qTc] at r2;have HREN:=hid hren;have HNC:=hid hnc;clear hTO hTO2 hR0 bo hXr hXm hXb sm9 hM hD hDk hren hnc br0 hcb;go_wp2_with fail;refine HREN.out.mono ?_;rintro e w9 ⟨rfl, rfl⟩;go_wp2_with fail;obtain ⟨wq, hwq⟩ : ∃ q : World, q = wr:=⟨_, rfl⟩;subst hwq;go_loopg [81] n1 (fun gk s81 wz => ∃ p : Nat, p + gk = n1 /\ s81 = .int .i64 p /\ Aside (RenO s V w all x wq ob A2 ca2 B2 cb2 p wz))
     case atStart => exact ⟨0, by omega, rfl, sr0⟩
     case round =>
      clear sr0 o0 of r2 c0;obtain ⟨p, hp, rfl, hR⟩:=hrel;cases gk with
      | zero =>
       have hpn : ¬ ((p : Int) < n1):=by omega
       have hpe : p = n1:=by omega
       subst hpe;have hR2:=hR.out;have hR3 : RenO s V w all x wq ob A2 ca2 B2 cb2 x.ws.length wr:=by rw [<- HN1.out]; exact hR2
       obtain ⟨vL, L, hXr, hXm, hXb⟩:=HX.out;obtain ⟨cs, hcs⟩ : ∃ cs : Array Value, cs = #[.int .i64 nc, .int .i64 xk, .slice A2 p ca2, .slice B2 n2 cb2]:=⟨_, rfl⟩;have hcs2 : (⟨renO all x, A2, ca2, B2, cb2⟩ : Q4).cells.toArray = cs:=by rw [hcs, HNC.out, HXK.out, HN1.out, HN2.out];simp [Q4.cells, renO]
       obtain ⟨hb1, hb2, hb3, hb4, hb5⟩:=snap_before (cs:=cs) HS.out HSET.out hR3 hXr hXb hxl (HN.out.check HV.out HI.out (by simpa using HXV.out)) HVX.out;have bg : Blk (wr.alloc (.cells cs 29)) wr.heap.size 29 (⟨renO all x, A2, ca2, B2, cb2⟩ : Q4).cells.toArray:=by rw [hcs2];exact Blk.new wr 29 cs
       clear hcs2;subst hcs;have hLl : L.length <= 100000:=by have:=congrArg List.length hXm;simp at this;omega
       have hxz:=hXb.only hR2.2.2.2.2.1 (fun h3 => by have:=HSET.out _ h3; omega);have hbr:=hR2.1;rw [<- HNC.out, <- HXK.out, <- HN1.out, <- HN2.out] at hbr;have y0:=hxz.cell 0;have r0:=hbr.cell 0;have r1:=hbr.cell 1;have r2:=hbr.cell 2;have r3:=hbr.cell 3;simp only [qTa, qTb, qTc] at r0 r1 r2 r3 y0;have hmp : (L ++ [(⟨renO all x, A2, ca2, B2, cb2⟩ : Q4)]).map (·.o) = (snapV all V).take (j + 1):=by have h1:=snapV_get (V:=V) HI.out;rw [HXD.out] at h1;rw [take_snoc _ j _ h1, List.map_append, hXm];rfl
       have HMP:=hid hmp;have HB1:=hid hb1;have HB2:=hid hb2;have HB4:=hid hb4;have HB5:=hid hb5;have BG:=hid bg;clear hR hR2 hR3 hXr hXm hXb hb1 hb2 hb4 hb5 bg hxz hbr hmp;go_wp2_with (at_builtin; refine append_obj rfl _ _ rfl w.heap.size vL L rfl HB1.out ⟨renO all x, A2, ca2, B2, cb2⟩ wr.heap.size rfl BG.out HB2.out hLl hb3 ?_)
       intro v9 w9 hX9 hg9;obtain ⟨a1, a2, a3, a4⟩:=snap_after HSET.out HB5.out HB1.out HB4.out hxl hX9 hg9;obtain ⟨A7, cap7, rfl, -, -, -⟩:=hX9.slice;rw [length_append, List.length_singleton] at a2 a3 a4;have y9:=a1.cell 0;have yf:=a1.frozen;simp only [qTa, qTb] at y9;have A2' : Aside (SnapM s V w.heap.size w all k mb (mb + 1) w.heap.size (.slice (some ⟨b, off, none⟩) k cap8) _):=a2;have A3' : Aside (∃ vL L, RowsO _ w.heap.size vL L /\ L.map (·.o) = (snapV all V).take (j + 1) /\ Blk _ xb 24 #[vL, .int .i64 F]):=⟨_, _, a3, HMP.out, a4⟩;clear a1 a2 a3 a4 hX9 hg9;go_wp2_with fail;go_roundg g
       case measure => omega
       case rel => exact ⟨j + 1, by omega, by go_num, A2', A3'⟩
      | succ g2 =>
       have hpn : (p : Int) < n1:=by omega
       obtain ⟨v, hv⟩ : ∃ v, x.ws[p]? = some v:=⟨_, getElem?_eq_getElem (by have:=HN1.out; omega)⟩;obtain ⟨h1, h2, h3, h4, h5, h6⟩:=hR.out;have hl:=halfR_length all x.ws (i:=p) (by have:=HN1.out; omega);obtain ⟨b2, cur, rfl, -, -, hbk, -⟩:=h2.open_ (by rw [hl]; have:=HN1.out; omega);obtain ⟨_, hbl, hc, hf, -⟩:=h2.at_ (i:=p) (by rw [hl]; have:=HN1.out; omega);rw [getD_eq_getElem?_getD, halfR_get all x.ws hv, Option.getD_some] at hc;obtain ⟨nv, hnv⟩ : ∃ n, n = renM all v:=⟨_, rfl⟩;have hnext : Aside (RenO s V w all x wq ob (some ⟨b2, 0, none⟩) ca2 B2 cb2 (p + 1) (wr.drew.setCell ⟨b2, 0 + p, none⟩ (.int .i64 nv))):=by rw [hnv];exact hR.out.next HSET.out hwl hv rfl
       rw [Nat.zero_add] at hnext;have sm9:=HS.out.only h5 h4 (fun k h1 _ h3 => by have:=HSET.out k h3; omega);obtain ⟨D, hM, hD⟩:=(sm9.drewN HSET.out 1).map;have c0:=(sm9.drewN HSET.out 1).cel.cell 0;simp only [qTa, qTb] at c0;have hvb : -9223372036854775808 <= v /\ v <= 9223372036854775807:=by have:=checkM_bd HCK.out v (by simp [mem_of_getElem? hv]);omega
       have hDk : FreshD all all.length D:=by rw [<- HK.out]; exact hD
       have hren:=(ren_any all D (mb + 1) mb v wr.drew c0 hM hDk hvb).mono (fun _ _ h => (⟨h.1, h.2.symm⟩ : _ /\ _));rw [<- hnv] at hren;have hbr:=h1;rw [<- HXK.out, <- HN1.out, <- HN2.out] at hbr;have r2:=hbr.cell 2;simp only [qTa, qTb, qTc] at r2;have hp2 : p < 1000000:=by
        have:=HN1.out;obtain ⟨_, h7⟩:=checkM_parts HCK.out;rcases h7 with ⟨_, _, h8, _⟩ | ⟨_, h8, _⟩
        ·omega
        ·rw [h8] at this;simp at this;omega
       have HREN:=hid hren;clear hR h1 h2 h3 h4 h5 h6 hl hbk sm9 hM hD hDk hren hbr hv hnv c0 hvb;go_upto_region 21 with (fail);go_still_tail 7, (by kernel_rfl)
       still_call HREN.out
       repeat still_step
       refine wpStill_nil ?_;change wpList _ _ _ _ _ wr.drew;clear HREN;go_wp2_with fail;go_roundg g2
       case measure => omega
       case rel => exact ⟨p + 1, by omega, by go_num, hnext⟩
  | succ g =>
   have hjn : (j : Int) < k:=by omega
   obtain ⟨i, hi⟩ : ∃ i, all[j]? = some i:=⟨_, getElem?_eq_getElem (by have:=HK.out; omega)⟩;obtain ⟨i1, i2⟩:=HALB.out j i hi;obtain ⟨A9, cap9, e9, -, -, hI9, -⟩:=hS.out.alls.reads (fun x hx => by obtain ⟨y, hy, rfl⟩:=List.mem_map.1 hx;obtain ⟨p, hp⟩:=List.getElem?_of_mem hy;have:=HALB.out p y hp;omega)
   injection e9 with e9 e11 e10;subst e9;subst e10;clear e11;obtain ⟨_, b, off, rfl, _, q0⟩:=hI9 j (i : Int) (by simp [natI, hi]);obtain ⟨D, hM, hD⟩:=hS.out.map;have c0:=hS.out.cel.cell 0;simp only [qTa, qTb] at c0;have hsz:=hD.sz;obtain ⟨w7, hrun, hM7, hO7⟩:=hM.drew.store law3 Tryz.underlying100 (by omega) (keyI (a:=2 * (i : Int)) (by omega)) (.int .i64 (2 * ((j : Int) + 1)));have hS7 : Aside (SnapM s V w.heap.size w all (j + 1) mb (mb + 1) w.heap.size (.slice (some ⟨b, off, none⟩) k cap8) w7):=(hS.out.drewN HSET.out 1).more HSET.out HN.out.rise hi hM.drew hD hM7 hO7;have ho1:=fun W => oop_any (i : Int) W;have ho2:=fun W => oop_any ((j : Int) + 1) W;rw [oopM_at (by omega) (by omega)] at ho1;rw [oopM_at (by omega) (by omega)] at ho2;have HO1:=hid ((ho1 wr.drew).mono (fun _ _ h => (⟨h.1, h.2.symm⟩ : _ /\ _)));have ho3 : Calls Tryz.prog 39 #[.int .i64 (IntKind.i64.wrap ((j : Int) + 1))] wr.drew fun e w' => e = .returned (.int .i64 (2 * ((j : Int) + 1))) /\ w' = wr.drew:=by rw [show IntKind.i64.wrap ((j : Int) + 1) = (j : Int) + 1 from IntWalk.i64_in _ (by omega)];exact (ho2 wr.drew).mono (fun _ _ h => (⟨h.1, h.2.symm⟩ : _ /\ _))
   have HO2:=hid ho3;have hkb : j < 2000:=by omega
   clear ho1 ho2 ho3 hM hD hM7 hO7 hS hI9 hsz hi;go_upto_region 6 with (fail);go_still_tail 6, (by kernel_rfl)
   still_call HO1.out
   repeat still_step
   still_call HO2.out
   repeat still_step
   refine wpStill_nil ?_;change wpList _ _ _ _ _ wr.drew;clear HO1 HO2 c0 q0;go_wp2_with fail;go_roundg g
   case measure => omega
   case rel => exact ⟨j + 1, by omega, by go_num, hS7⟩
end Go.Proofs.YtgaemfghpibeeaaGreatDoor
namespace Go.Proofs.YtgaemfghpibeeaaGreatDoor
open Go.RowKit
theorem same_imgs (l : List Ob) (A A' : Option Addr) (cap cap' : Nat) (f : Int) (w : World) (h : ObjsAt w A l) (h' : ObjsAt w A' l) (hl : l.length <= 9223372036854775807) :
  Calls Tryz.prog 12 #[.agg #[.slice A l.length cap, .int .i64 f], .agg #[.slice A' l.length cap', .int .i64 f]] w fun e w' => e = .returned (.bool true) /\ Below w.heap.size w w':=by
 have hal:=((Below.refl w.heap.size w).alloc (Nat.le_refl _) (.cells #[.slice A l.length cap, .int .i64 f] 24)).alloc (by simp) (.cells #[.slice A' l.length cap', .int .i64 f] 24);have b0:=(Blk.new w 24 #[.slice A l.length cap, .int .i64 f]).alloc (.cells #[.slice A' l.length cap', .int .i64 f] 24);have b1:=Blk.new2 w (.cells #[.slice A l.length cap, .int .i64 f] 24) 24 #[.slice A' l.length cap', .int .i64 f];obtain ⟨n, hn⟩ : ∃ n, n = l.length:=⟨_, rfl⟩;rw [<- hn] at hal b0 b1 hl ⊢;obtain ⟨w1, hw1⟩ : ∃ w1, w1 = (w.alloc (.cells #[.slice A n cap, .int .i64 f] 24)).alloc (.cells #[.slice A' n cap', .int .i64 f] 24):=⟨_, rfl⟩;have hff : (f == f) = true:=by simp
 have c0:=b0.cell 0;have c1:=b0.cell 1;have d0:=b1.cell 0;have d1:=b1.cell 1;simp only [qTa, qTb, qTc] at c0 c1 d0 d1;rw [<- hw1] at hal b0 b1;have HW1:=hid hw1;have HAL:=hid hal;have B0:=hid b0;have B1:=hid b1;have HN:=hid hn;have H:=hid h;have H':=hid h';clear hw1 hal b0 b1 hn h h';go_enter Tryz.func12, Tryz.ntmps12;go_wp2_with fail;rw [<- HW1.out];go_loopg [5] n (fun gk s5 wr => ∃ j : Nat, j + gk = n /\ s5 = .int .i64 j /\ Aside (Below w1.heap.size w1 wr))
 case atStart => exact ⟨0, by omega, rfl, Below.refl _ _⟩
 case round =>
  clear c0 c1 d0 d1;obtain ⟨j, hj, rfl, hB⟩:=hrel;have y0:=B0.out.keep hB.out;have y1:=B1.out.keep hB.out;have c0:=y0.cell 0;have d0:=y1.cell 0;simp only [qTa, qTb] at c0 d0;have hbw:=HAL.out.trans (hB.out.mono HAL.out.size);clear y0 y1;cases gk with
  | zero =>
   have hjn : ¬ ((j : Int) < n):=by omega
   have HBW:=hid hbw;clear hbw hB;go_wp2_with fail;go_ret;exact ⟨rfl, HBW.out⟩
  | succ g =>
   have hjn : (j : Int) < n:=by omega
   obtain ⟨x, hx⟩ : ∃ x, l[j]? = some x:=⟨_, getElem?_eq_getElem (by have:=HN.out; omega)⟩;obtain ⟨b, off, Aj, caj, Bj, cbj, rfl, -, hO, q0, q1, q2, q3⟩:=(H.out.below hbw) j x hx;obtain ⟨b', off', Aj', caj', Bj', cbj', rfl, -, hO', p0, p1, p2, p3⟩:=(H'.out.below hbw) j x hx;have hs:=same_objs x Aj Aj' caj caj' Bj Bj' cbj cbj' wr.drew (hO.below (below_drewN (Below.refl _ wr) 1)) (hO'.below (below_drewN (Below.refl _ wr) 1));unfold obV at hs;obtain ⟨n1, hn1⟩ : ∃ n, n = x.ws.length:=⟨_, rfl⟩;obtain ⟨n2, hn2⟩ : ∃ n, n = x.bs.length:=⟨_, rfl⟩;rw [<- hn1] at q2 p2 hs;rw [<- hn2] at q3 p3 hs;have HS:=hid hs;have HB : Hid (Below w1.heap.size w1 wr.drew):=hid (below_drewN hB.out 1);clear hs hO hO' hn1 hn2 hx hbw hB;go_upto_region 6 with (fail);go_still_tail 10, (by kernel_rfl)
   change wpList _ _ _ _ _ wr.drew;clear c0 d0 q0 q1 q2 q3 p0 p1 p2 p3;generalize wr.drew = V at HS HB ⊢;go_wp2_with fail;refine HS.out.mono ?_;rintro e w5 ⟨rfl, hb5⟩;have fb : Aside (Below w1.heap.size w1 w5):=HB.out.trans (hb5.mono HB.out.size);clear hb5 HB HS;go_wp2_with fail;go_roundg g
   case measure => omega
   case rel => exact ⟨j + 1, by omega, by go_num, fb⟩
def evens (n : Nat) : List Int:=(List.range n).map fun (i : Nat) => 2 * ((i : Int) + 1)
theorem evens_next (n : Nat) : evens (n + 1) = evens n ++ [2 * ((n : Int) + 1)]:=by simp [evens, List.range_succ]
theorem evens_length (n : Nat) : (evens n).length = n:=by simp [evens]
def nxtI (n i : Nat) : Int:=if i < n then 2 * ((i : Int) + 1) else 0
theorem nextV_eq (n i : Nat) : nextV n i = .tuple #[.int .i64 (nxtI n i), .bool (decide (i < n))]:=by
 unfold nextV nxtI;by_cases h : i < n
 ·rw [if_pos h, if_pos h]; simp [h]
 ·rw [if_neg h, if_neg h]; simp [h]
theorem flatAll_any (p : LmP) (N NW NS : Nat) (S : St) (w : World) (h : LmMem w p N NW NS S) (hl : S.D.length <= 2000) :
  Calls Tryz.prog 10 #[.iface 31 (.pointer (some ⟨p.m, 0, none⟩))] w (RetI (evens S.D.length) w):=by
 have hnx:=fun (i : Nat) (hi : i <= 2000) W (hb : Below w.heap.size w W) => next_any p N NW NS i S W (h.below hb) (by omega) hl;obtain ⟨n, hn⟩ : ∃ n, n = S.D.length:=⟨_, rfl⟩;rw [<- hn] at hnx hl ⊢;have hm:=fun W => m31_next ⟨p.m, 0, none⟩ W;simp only [nextV_eq] at hnx;have HNX:=hid hnx;clear hnx hn h;go_enter Tryz.func10, Tryz.ntmps10;go_wp2_with fail;refine (HNX.out 0 (by omega) w (Below.refl _ _)).mono ?_;rintro e w1 ⟨rfl, hb1⟩;obtain ⟨v0, hv0⟩ : ∃ v, v = nxtI n 0:=⟨_, rfl⟩;obtain ⟨t0, ht0⟩ : ∃ v, v = decide (0 < n):=⟨_, rfl⟩;rw [<- hv0, <- ht0];have HV0:=hid hv0;have HT0:=hid ht0;have HB1:=hid hb1;clear hv0 ht0 hb1;go_wp2_with fail;go_loopg [3, 4, 5] n (fun gk s3 s4 s5 wr => ∃ i : Nat, i + gk = n /\ OwnsI wr w.heap.size s3 (evens i) /\ (∃ v, v = nxtI n i /\ s4 = .int .i64 v) /\ (∃ t, t = decide (i < n) /\ s5 = .bool t) /\ Aside (Below w.heap.size w wr))
 case atStart => exact ⟨0, by omega, World.ownsRow_nil _ _ _ _, ⟨v0, HV0.out, rfl⟩, ⟨t0, HT0.out, rfl⟩, HB1.out⟩
 case round =>
  obtain ⟨i, hi, hown, ⟨v, hv, rfl⟩, ⟨t, ht, rfl⟩, hB⟩:=hrel;have hbr:=hB.out;have hsz:=hbr.size;clear hB;cases gk with
  | zero =>
   have e0 : t = false:=by rw [ht]; simp; omega
   subst e0;have e1 : i = n:=by omega
   rw [e1] at hown;have HOW:=hid hown;have HBR:=hid hbr;clear ht hv hown hbr;go_wp2_with fail;go_ret;exact ⟨_, rfl, HOW.out, HBR.out⟩
  | succ g =>
   have e0 : t = true:=by rw [ht]; simp; omega
   subst e0;have e1 : v = 2 * ((i : Int) + 1):=by rw [hv, nxtI, if_pos (by omega)]
   subst e1;clear ht hv;have hlen:=evens_length i;have hown2 : OwnsI (wr.alloc (.cells #[.int .i64 (2 * ((i : Int) + 1))] 3)) w.heap.size _ _:=World.ownsRow.alloc hown (.cells #[.int .i64 (2 * ((i : Int) + 1))] 3);have hI2:=Ints.of_blk (blk_ints wr (2 * ((i : Int) + 1))) (by intro v hv; simp at hv; omega);have HI2:=hid hI2;have hbr2:=hbr.alloc hsz (.cells #[.int .i64 (2 * ((i : Int) + 1))] 3);clear hown hI2 hbr;go_wp2_with (at_builtin; refine append_ints rfl _ _ rfl w.heap.size _ (evens i) rfl hown2 _ [2 * ((i : Int) + 1)] _ _ rfl rfl HI2.out (fun h => by cases h) ?c1 (by simp; omega) ?_)
   case c1 => have : [2 * ((i : Int) + 1)].length = 1:=rfl;omega
   intro v5 w5 hown5 hg5;have hb5:=hbr2.grown hg5 (by simp; omega) (fun k hk => (hown2.lt k hk).1);have hown6 : OwnsI w5 w.heap.size v5 (evens (i + 1)):=by rw [evens_next]; exact hown5
   have HOW:=hid hown6;have HB5:=hid hb5;clear hown5 hg5 hown2 hbr2 HI2 hlen hown6 hb5;have hn5:=HNX.out (i + 1) (by omega) w5 HB5.out;have e2 : (2 * (((i + 1 : Nat) : Int))) = 2 * ((i : Int) + 1):=by omega
   rw [e2] at hn5;obtain ⟨v', hv'⟩ : ∃ v, v = nxtI n (i + 1):=⟨_, rfl⟩;obtain ⟨t', ht'⟩ : ∃ v, v = decide (i + 1 < n):=⟨_, rfl⟩;rw [<- hv', <- ht'] at hn5;have HN5:=hid hn5;have HV':=hid hv';have HT':=hid ht';clear hn5 hv' ht' e2;go_wp2_with fail;refine HN5.out.mono ?_;rintro e w6 ⟨rfl, hb6⟩;have fo : Aside (OwnsI w6 w.heap.size v5 (evens (i + 1))):=HOW.out.keep hb6;have fb : Aside (Below w.heap.size w w6):=HB5.out.trans (hb6.mono HB5.out.size);clear hb6;go_wp2_with fail;go_roundg g
   case measure => omega
   case rel => exact ⟨i + 1, by omega, fo.out, ⟨v', HV'.out, rfl⟩, ⟨t', HT'.out, rfl⟩, fb⟩
end Go.Proofs.YtgaemfghpibeeaaGreatDoor
namespace Go.Proofs.YtgaemfghpibeeaaGreatDoor
open Go.RowKit Go.Maps
structure IsL (s : Sto) (m B : Nat) (w : World) (V : List Ob) : Prop where
 rep : s.Rep w V
 l : s.isL = true
 m : s.blk = m
 lo : ∀ k, s.set k -> B <= k
section
variable {s : Sto} {m B : Nat} {w w' : World} {V : List Ob}
theorem IsL.val (h : IsL s m B w V) : s.val = .iface 31 (.pointer (some ⟨m, 0, none⟩)):=by unfold Sto.val Sto.recv;rw [h.l, h.m, if_pos rfl]
theorem IsL.below (h : IsL s m B w V) (hb : Below w.heap.size w w') : IsL s m B w' V:=⟨Sto.below h.rep hb, h.l, h.m, h.lo⟩
theorem IsL.turn {s' : Sto} {V' : List Ob} (h : IsL s m B w V) (hr : s'.Rep w' V') (ht : Turn s w s' w') (hB : B <= w.heap.size) : IsL s' m B w' V' :=
 ⟨hr, ht.kin.trans h.l, ht.blk.trans h.m, fun k hk => (ht.sub k hk).elim (h.lo k) (fun h2 => Nat.le_trans hB h2)⟩
theorem IsL.near {B2 : Nat} (h : IsL s m B w V) (hn : NearW s V B2 w w') : ∃ s', IsL s' m B w' V /\ (∀ k, s'.set k -> s.set k) /\ Only (fun k => s.set k \/ B2 <= k) w w':=by obtain ⟨s', h1, h2, h3, h4, h5⟩:=hn;exact ⟨s', ⟨h1, h2.trans h.l, h3.trans h.m, fun k hk => h.lo k (h4 k hk)⟩, h4, h5⟩
theorem IsL.sound (h : IsL s m B w V) : Calls Tryz.prog 8 #[.pointer (some ⟨m, 0, none⟩)] w fun e w' => e = .returned (.bool true) /\ Only s.set w w':=by
 obtain ⟨h1, h2, h3, h4⟩:=h;cases s with
 | flat P => cases h2
 | loom N NW NS p S => obtain ⟨a1, a2, a3⟩:=h1;have e : p.m = m:=h3;subst e;exact (sound_any p N NW NS S V w a1 a2 a3).mono (fun e w' h => ⟨h.1, h.2.2.turn.only⟩)
theorem IsL.all (h : IsL s m B w V) : Calls Tryz.prog 10 #[.iface 31 (.pointer (some ⟨m, 0, none⟩))] w fun e w' => ∃ A c, e = .returned (.slice A V.length c) /\ Ints w' A (evens V.length) /\ (A = none -> c = 0) /\ Below w.heap.size w w':=by
 have hsm:=Sto.small h.rep;obtain ⟨h1, h2, h3, h4⟩:=h;cases s with
 | flat P => cases h2
 | loom N NW NS p S =>
  obtain ⟨a1, a2, a3⟩:=h1;have e : p.m = m:=h3;subst e;have hl:=a2.lenV;rw [hl] at hsm ⊢;refine (flatAll_any p N NW NS S w a1 hsm).mono (fun e w' h => ?_);obtain ⟨v, rfl, hO, hb⟩:=h;obtain ⟨A, c, rfl, _, _, hI, hn⟩:=hO.reads (fun x hx => by obtain ⟨i, hi, rfl⟩:=List.mem_map.1 hx;have:=List.mem_range.1 hi;omega)
  have hle : (evens S.D.length).length = S.D.length:=by simp [evens]
  rw [hle];exact ⟨A, c, rfl, hI, hn, hb⟩
theorem ObjsAt.bytes {A : Option Addr} (h : ObjsAt w A V) : ∀ x ∈ V, ∀ b ∈ x.bs, 0 <= b /\ b <= 255:=by intro x hx b hb;obtain ⟨j, hj⟩:=List.getElem?_of_mem hx;obtain ⟨_, _, _, _, _, _, _, _, h3, _⟩:=h j x hj;obtain ⟨i, hi⟩:=List.getElem?_of_mem hb;obtain ⟨h4, h5, _⟩:=h3.byts i b hi;exact ⟨h4, h5⟩
theorem evens_ref (n : Nat) : refI ((List.range n).map (· + 1)) = evens n:=by simp [refI, evens]
theorem snap_plain {f : Int} (h : s.Rep w V) (hv : Valid jumpsM V f) (hvb : ∀ x ∈ V, ∀ b ∈ x.bs, 0 <= b /\ b <= 255) (htab : Tabs w) (hts : ∀ k, s.set k -> 2 <= k) :
  Calls Tryz.prog 9 #[s.val, .int .i64 f, .slice none 0 0] w (SnapPost s V f [2, 4, 6, 8, f] w):=by
 have:=snap_any s V f [] none 0 w h hv hvb (Ints.nil _ _) (fun _ => rfl) (by simp) (by simp) htab hts;exact this
def SnapAll (s : Sto) (V : List Ob) (f : Int) (w : World) (e : Ending) (w' : World) : Prop :=
 ∃ A cap L, e = .returned (.tuple #[.agg #[.slice A V.length cap, .int .i64 f], .int .i64 0]) /\ RowsO w' w.heap.size (.slice A V.length cap) L /\ L.map (·.o) = V /\ NearW s V w.heap.size w w'
theorem snap_evens {f : Int} {A : Option Addr} {c : Nat} (h : s.Rep w V) (hv : Valid jumpsM V f) (hvb : ∀ x ∈ V, ∀ b ∈ x.bs, 0 <= b /\ b <= 255) (hI : Ints w A (evens V.length)) (hA : A = none -> c = 0) (htab : Tabs w) (hts : ∀ k, s.set k -> 2 <= k) :
  Calls Tryz.prog 9 #[s.val, .int .i64 f, .slice A V.length c] w (SnapAll s V f w):=by
 have hle : ((List.range V.length).map (· + 1)).length = V.length:=by simp
 have:=snap_any s V f ((List.range V.length).map (· + 1)) A c w h hv hvb (by rw [evens_ref]; exact hI) hA (by
  intro i hi;obtain ⟨j, hj, rfl⟩:=List.mem_map.1 hi;have:=List.mem_range.1 hj;omega) (by rw [hle]; exact hv.n2000) htab hts
 rw [hle] at this;refine this.mono ?_;rintro e w' ⟨A1, cap1, all, L, rfl, hN, hR, hm, hW⟩;obtain ⟨e1, e2⟩:=law_all hv hN (fun i h1 h2 => by refine List.mem_map.2 ⟨i, List.mem_map.2 ⟨i - 1, List.mem_range.2 (by omega), by omega⟩, rfl⟩)
 rw [e1] at hR hm ⊢;rw [e2];exact ⟨A1, cap1, L, rfl, hR, hm, hW⟩
theorem RowsO.mono {B B' : Nat} {v : Value} {L : List Q4} (h : RowsO w B v L) (hB : B' <= B) : RowsO w B' v L:=by refine ⟨⟨h.row.1, h.row.2.elim .inl (fun ⟨g, cap, cur, hv, hg, r⟩ => .inr ⟨g, cap, cur, hv, Nat.le_trans hB hg, r⟩)⟩, fun q hq => ?_, h.ne⟩;obtain ⟨h1, h2, h3, h4, h5⟩:=h.own q hq;exact ⟨h1, fun x hx => ⟨Nat.le_trans hB (h2 x hx).1, (h2 x hx).2⟩, fun x hx => ⟨Nat.le_trans hB (h3 x hx).1, (h3 x hx).2⟩, h4, h5⟩
theorem blk_keep1 {g z : Nat} {t : TypeId} {x0 x1 u v : Value} (h : Blk w g t #[x0, x1]) (hg : g ≠ z) : ((w.setCell ⟨z, 0, none⟩ u).setCell ⟨z, 1, none⟩ v).cell? ⟨g, 1, none⟩ = some x1:=by
 have:=((h.far (p:=⟨z, 0, none⟩) hg u).far (p:=⟨z, 1, none⟩) hg v).cell 1
 simpa using this
def TopZ (s : Sto) (l : List Ob) (f : Int) (w5 : World) (zb : Nat) (A : Option Addr) (cap : Nat) (wx : World) : Prop :=
 Blk wx zb 24 #[.slice A l.length cap, .int .i64 f] /\ (∃ L, RowsO wx w5.heap.size (.slice A l.length cap) L /\ L.map (·.o) = l) /\ NearW s l w5.heap.size w5 wx
theorem topz_new {w5 W w7 : World} {f : Int} {A : Option Addr} {cap : Nat} {L : List Q4} (hs : ∀ k, s.set k -> k < w5.heap.size) (hb : Below w5.heap.size w5 W) (hR : RowsO w7 W.heap.size (.slice A V.length cap) L) (hm : L.map (·.o) = V) (hn : NearW s V W.heap.size W w7) :
  TopZ s V f w5 w7.heap.size A cap (w7.alloc (.cells #[.slice A V.length cap, .int .i64 f] 24)):=by
 have hal:=(Below.refl w7.heap.size w7).alloc (Nat.le_refl _) (.cells #[.slice A V.length cap, .int .i64 f] 24);have h1 : NearW s V w5.heap.size w5 w7:=(hn.mono hb.size).from (only_of hb _);exact ⟨Blk.new w7 24 _, ⟨L, (hR.mono hb.size).below hal, hm⟩, h1.step hs (only_of hal _)⟩
theorem topz_set {w5 W w7 : World} {f : Int} {g : Nat} {x0 x1 : Value} {A : Option Addr} {cap : Nat} {L : List Q4} (hs : ∀ k, s.set k -> k < w5.heap.size) (hb : Below w5.heap.size w5 W) (hR : RowsO w7 W.heap.size (.slice A V.length cap) L) (hm : L.map (·.o) = V) (hn : NearW s V W.heap.size W w7) (hz : Blk w7 g 24 #[x0, x1]) (hg : w5.heap.size <= g) :
  TopZ s V f w5 g A cap ((w7.setCell ⟨g, 0, none⟩ (.slice A V.length cap)).setCell ⟨g, 1, none⟩ (.int .i64 f)):=by
 have h1 : NearW s V w5.heap.size w5 w7:=(hn.mono hb.size).from (only_of hb _);have ho:=only_two w7 g (.slice A V.length cap) (.int .i64 f);exact ⟨hz.set11 _ _, ⟨L, (hR.mono hb.size).setc hz ho, hm⟩, h1.step hs (ho.mono (fun k e => by omega))⟩
theorem NearW.blk {w5 w7 : World} {B g : Nat} {t : TypeId} {cs : Array Value} (hn : NearW s V B w5 w7) (hb : Blk w5 g t cs) (hg : g < B) (hs : ¬ s.set g) : Blk w7 g t cs:=by obtain ⟨_, _, _, _, _, ho⟩:=hn;exact hb.only ho (fun e => e.elim hs (fun e => by omega))
end
end Go.Proofs.YtgaemfghpibeeaaGreatDoor
namespace Go.Proofs.YtgaemfghpibeeaaGreatDoor
open Go.RowKit Go.Maps
theorem top_any (l : List Ob) (A : Option Addr) (cap : Nat) (f a b c : Int) (w : World) (hA : ObjsAt w A l) (hl : l.length <= 9223372036854775807) (hf : -9223372036854775808 <= f /\ f <= 9223372036854775807) (ha : 0 <= a /\ a <= 65535) (hb : 0 <= b /\ b <= 65535) (hc : 0 <= c /\ c <= 255) (htab : Tabs w) :
  Calls Tryz.prog 3 #[.agg #[.slice A l.length cap, .int .i64 f], .int .u16 a, .int .u16 b, .int .u8 c] w fun e w' => e = .returned (.bool true) /\ Below w.heap.size w w':=by
 have hal:=(Below.refl w.heap.size w).alloc (Nat.le_refl _) (.cells #[.slice A l.length cap, .int .i64 f] 24);have b0:=Blk.new w 24 #[.slice A l.length cap, .int .i64 f];obtain ⟨n, hn⟩ : ∃ n, n = l.length:=⟨_, rfl⟩;rw [<- hn] at hal b0 hl ⊢;have HN:=hid hn;have HA:=hid hA;have HTAB:=hid htab;have HAL:=hid hal;have B0:=hid b0;clear hn hA htab hal b0;go_enter Tryz.func3, Tryz.ntmps3;go_wp2_with fail;obtain ⟨w1, hw1⟩ : ∃ q, q = w.alloc (.cells #[.slice A n cap, .int .i64 f] 24):=⟨_, rfl⟩;have hs1 : w1.heap.size = w.heap.size + 1:=by rw [hw1]; simp
 have B1 : Hid (Blk w1 w.heap.size 24 #[.slice A n cap, .int .i64 f]):=hid (by rw [hw1]; exact B0.out);have hb1 : Aside (Below w.heap.size w w1):=by rw [hw1]; exact HAL.out
 rw [<- hw1];have hi1 : Aside (Below w1.heap.size w1 w1):=Below.refl _ _;clear hw1 HAL B0;go_loopg [9, 10] n (fun gk s9 s10 wr => ∃ (j : Nat) (v : Int), j + gk = n /\ s9 = .int .i64 v /\ s10 = .int .i64 j /\ Aside (Below w1.heap.size w1 wr))
 case atStart => exact ⟨0, 0, by omega, rfl, rfl, hi1⟩
 case round =>
  clear hi1;obtain ⟨j, v, hj, rfl, rfl, hB⟩:=hrel;have y1:=B1.out.keep hB.out;have y0:=y1.cell 0;simp only [qTa, qTb] at y0;clear y1;cases gk with
  | zero =>
   have hjn : ¬ ((j : Int) < n):=by omega
   have hbw : Aside (Below w.heap.size w wr):=hb1.out.trans (hB.out.mono (by omega));have hkn:=known_any wr;have HK:=hid hkn;clear hkn;by_cases hv : 200 < v
   ·go_wp2_with fail;refine HK.out.mono ?_;rintro e w2 ⟨rfl, hb2⟩;go_wp2_with fail;go_ret;exact ⟨rfl, hbw.out.trans (hb2.mono hbw.out.size)⟩
   ·obtain ⟨N, hN, hN2⟩ : ∃ N : Nat, a % 20000 = (N : Int) /\ N < 20000:=⟨(a % 20000).toNat, by omega, by omega⟩;obtain ⟨NW, hNW, hNW2⟩ : ∃ NW : Nat, b % 30000 = (NW : Int) /\ NW < 30000:=⟨(b % 30000).toNat, by omega, by omega⟩;obtain ⟨NS, rfl⟩ : ∃ NS : Nat, c = (NS : Int):=⟨c.toNat, by omega⟩;have hnw:=loomNew_any N NW NS wr hN2 (by omega) (by omega);rw [<- hN, <- hNW] at hnw;have HNW:=hid hnw;clear hnw hN hNW hN2 hNW2 HK;go_wp2_with fail;refine HNW.out.mono ?_;rintro e w2 ⟨p, rfl, hM, hset, hb2⟩;have hw2 : Below w.heap.size w w2:=hbw.out.trans (hb2.mono hbw.out.size);have hw12 : Below w1.heap.size w1 w2:=hB.out.trans (hb2.mono hB.out.size);have is0 : IsL (.loom N NW NS p (st0 NS)) p.m w1.heap.size w2 []:=⟨⟨hM, inv_start NS (by omega), rfl⟩, rfl, rfl, fun k hk => Nat.le_trans hB.out.size (hset k hk)⟩;obtain ⟨s0, hs0⟩ : ∃ s0, s0 = Sto.loom N NW NS p (st0 NS):=⟨_, rfl⟩;rw [<- hs0] at is0;obtain ⟨m, hm⟩ : ∃ m, m = p.m:=⟨_, rfl⟩;rw [<- hm] at is0 ⊢;have hld:=imgload_any s0 l A cap f w w2 is0.rep HA.out hw2 (fun k hk => by have:=is0.lo k hk; omega) (by rw [<- HN.out]; exact hl) (HTAB.out.below hw2 HTAB.out.lt);rw [is0.val, <- HN.out] at hld;have x2:=B1.out.keep hw12;have y0:=x2.cell 0;have y1:=x2.cell 1;simp only [qTa, qTb, qTc] at y0 y1;have HLD:=hid hld;have HW2:=hid hw2;have HW12:=hid hw12;have IS0:=hid is0;have X2:=hid x2;clear hld hw2 hw12 is0 hs0 hm hM hset hb2 hB hbw HNW ha hb hc hb1 x2;go_wp2_with fail;refine HLD.out.mono ?_;intro e w3 hp;have hcase : (∃ (V' : List Ob) (s' : Sto) (er cr : Int), e = .returned (.int .i64 er) /\ ((er = 180 /\ cr = 180) \/ (er = 3 /\ cr = 0)) /\ IsL s' m w1.heap.size w3 V' /\ Turn s0 w2 s' w3 /\ ∀ W, Below w.heap.size w W -> Calls Tryz.prog 7 #[.agg #[.slice A n cap, .int .i64 f]] W (fun e w' => Below W.heap.size W w' /\ e = .returned (.int .i64 cr))) \/
      (e = .returned (.int .i64 0) /\ Valid jumpsM l f /\ ∃ s', IsL s' m w1.heap.size w3 l /\ Turn s0 w2 s' w3):=by
     have hck:=fun W (hb : Below w.heap.size w W) => rchk_any l A cap f w W HA.out hb (by rw [<- HN.out]; exact hl) hf;rw [<- HN.out] at hck;rcases hp with ⟨h1, rfl, s', h2, h3⟩ | ⟨h1, er, rfl, ⟨rfl, s', h2, h3⟩ | ⟨_, rfl, s', V', h2, h3⟩⟩
     ·refine .inl ⟨_, s', 180, 180, rfl, .inl ⟨rfl, rfl⟩, IS0.out.turn h2 h3 HW12.out.size, h3, fun W hb => (hck W hb).mono (fun e w' h => ⟨h.1, ?_⟩)⟩;rcases h.2 with ⟨h4, _⟩ | ⟨_, h5⟩
      ·exact absurd h4 h1
      ·exact h5
     ·exact .inr ⟨rfl, h1, s', IS0.out.turn h2 h3 HW12.out.size, h3⟩
     ·refine .inl ⟨_, s', 3, 0, rfl, .inr ⟨rfl, rfl⟩, IS0.out.turn h2 h3 HW12.out.size, h3, fun W hb => (hck W hb).mono (fun e w' h => ⟨h.1, ?_⟩)⟩;rcases h.2 with ⟨_, h5⟩ | ⟨h4, _⟩
      ·exact h5
      ·exact absurd h1 h4
    clear hp;rcases hcase with ⟨V', s', er, cr, rfl, hec, his, htn, hck⟩ | ⟨rfl, hval, s', his, htn⟩
    ·have ho:=htn.only;have hw3 : Below w.heap.size w w3:=HW2.out.trans (ho.below HW2.out.size (fun k hk => by have:=IS0.out.lo k hk; omega));have x3:=X2.out.only ho (fun hk => by have:=IS0.out.lo _ hk; omega);have hck3:=hck w3 hw3;have y0:=x3.cell 0;have y1:=x3.cell 1;simp only [qTa, qTb, qTc] at y0 y1;have HCK:=hid hck3;have HIS:=hid his;have HW3:=hid hw3;clear hck hck3 his htn ho hw3 x3;rcases hec with ⟨rfl, rfl⟩ | ⟨rfl, rfl⟩
     all_goals
      go_wp2_with fail;refine HCK.out.mono ?_;rintro e w4 ⟨hb4, rfl⟩;have hsd:=(HIS.out.below hb4).sound;have hb4':=HW3.out.trans (hb4.mono HW3.out.size);have HSD:=hid hsd;have HB4:=hid hb4';clear hsd hb4 hb4';go_wp2_with fail;refine HSD.out.mono ?_;rintro e w5 ⟨rfl, ho5⟩;have hb5:=HB4.out.trans (ho5.below HB4.out.size (fun k hk => by have:=HIS.out.lo k hk; omega));have hkn:=known_any w5;have HKN:=hid hkn;have HB5:=hid hb5;clear ho5 hb5 hkn;go_wp2_with fail;refine HKN.out.mono ?_;rintro e w6 ⟨rfl, hb6⟩;go_wp2_with fail;go_ret;exact ⟨rfl, HB5.out.trans (hb6.mono HB5.out.size)⟩
    ·have ho:=htn.only;have hw3 : Below w.heap.size w w3:=HW2.out.trans (ho.below HW2.out.size (fun k hk => by have:=IS0.out.lo k hk; omega));have x3:=X2.out.only ho (fun hk => by have:=IS0.out.lo _ hk; omega);have hw1 : 1 < w.heap.size:=HTAB.out.lt;have hvb:=(HA.out.below hw3).bytes;have hsp:=snap_plain his.rep hval hvb (HTAB.out.below hw3 hw1) (fun k hk => by have:=his.lo k hk; omega);rw [his.val] at hsp;have y0:=x3.cell 0;have y1:=x3.cell 1;simp only [qTa, qTb, qTc] at y0 y1;have HSP:=hid hsp;have HIS:=hid his;have HW3:=hid hw3;have HVB:=hid hvb;have HVAL:=hid hval;have X3:=hid x3;clear hsp his htn ho hw3 x3 hvb hval X2 HW2 IS0 HW12 B1;go_wp2_with fail;refine HSP.out.mono ?_;rintro e w4 ⟨A1, cap1, all1, L1, rfl, hN1, hR1, hm1, hnr1⟩;obtain ⟨hv1, hle1⟩:=law_valid (R:=[]) HVAL.out (by simpa using hN1);obtain ⟨s2, is2, hsub2, ho2⟩:=HIS.out.near hnr1;have hw4 : Below w.heap.size w w4:=HW3.out.trans (ho2.below HW3.out.size (fun k hk => by
      rcases hk with hk | hk
      ·have:=HIS.out.lo k hk; omega
      ·exact Nat.le_trans HW3.out.size hk))
     have hlt3 : w.heap.size < w3.heap.size:=X3.out.lt;have x4:=hnr1.blk X3.out hlt3 (fun hk => by have:=HIS.out.lo _ hk; omega);obtain ⟨yl, hyl⟩ : ∃ q, q = snapV all1 l:=⟨_, rfl⟩;obtain ⟨F1, hF1⟩ : ∃ q, q = renF all1 f:=⟨_, rfl⟩;have hyl2 : yl.length <= n:=by rw [hyl, snapV_length, HN.out]; exact hle1
     rw [<- hyl, <- hF1] at hv1 ⊢;rw [<- hyl] at hR1 hm1;obtain ⟨n1, hn1⟩ : ∃ q, q = yl.length:=⟨_, rfl⟩;rw [<- hn1] at hyl2 hR1 ⊢;have hal:=(Below.refl w4.heap.size w4).alloc (Nat.le_refl _) (.cells #[.slice A1 n1 cap1, .int .i64 F1] 24);have F1' : Aside (Below w.heap.size w (w4.alloc (.cells #[.slice A1 n1 cap1, .int .i64 F1] 24)) /\ IsL s2 m w1.heap.size (w4.alloc (.cells #[.slice A1 n1 cap1, .int .i64 F1] 24)) l /\ Blk (w4.alloc (.cells #[.slice A1 n1 cap1, .int .i64 F1] 24)) w.heap.size 24 #[.slice A n cap, .int .i64 f] /\ RowsO (w4.alloc (.cells #[.slice A1 n1 cap1, .int .i64 F1] 24)) w3.heap.size (.slice A1 n1 cap1) L1 /\ Blk (w4.alloc (.cells #[.slice A1 n1 cap1, .int .i64 F1] 24)) w4.heap.size 24 #[.slice A1 n1 cap1, .int .i64 F1] /\ ∀ k, s2.set k -> k < w3.heap.size) :=
      ⟨hw4.trans (hal.mono hw4.size), is2.below hal, x4.keep hal, hR1.below hal, Blk.new w4 24 _, fun k hk => Sto.lt HIS.out.rep k (hsub2 k hk)⟩
     have hsz : w3.heap.size <= w4.heap.size:=ho2.size;have HV1:=hid hv1;have HM1:=hid hm1;have HYL:=hid hyl;have HF1:=hid hF1;have HN1:=hid hn1;have HNE:=hid hN1;obtain ⟨yb, hyb⟩ : ∃ q, q = w4.heap.size:=⟨_, rfl⟩;rw [<- hyb] at hsz F1';have HYB:=hid hyb;clear hN1 hR1 hm1 hnr1 hv1 hle1 is2 hsub2 ho2 hw4 x4 hyl hF1 hn1 hal hyb y0 y1 HSP X3;go_upto_region 15 with (fail);rw [<- HYB.out];obtain ⟨w5, hw5⟩ : ∃ q, q = w4.alloc (.cells #[.slice A1 n1 cap1, .int .i64 F1] 24):=⟨_, rfl⟩;rw [<- hw5] at F1' ⊢;have hs5 : w5.heap.size = yb + 1:=by rw [hw5, HYB.out]; simp
     have HS5:=hid hs5;clear hw5 HYB hs5;obtain ⟨hw5, is5, x5, r5, yb5, hlo5⟩:=F1'.out;have hset5 : ∀ k, s2.set k -> k < w5.heap.size:=Sto.lt is5.rep;have y0:=x5.cell 0;have y1:=x5.cell 1;simp only [qTa, qTb, qTc] at y0 y1;have hfa:=fun W (hb : Below w5.heap.size w5 W) => (is5.below hb).all;rw [<- HN.out] at hfa;have hs2:=fun W A6 c6 (hb : Below w5.heap.size w5 W) (hI : Ints W A6 (evens n)) (h6 : A6 = none -> c6 = 0) => snap_evens (f:=f) (A:=A6) (c:=c6) (is5.below hb).rep HVAL.out HVB.out (by rw [<- HN.out]; exact hI) h6 ((HTAB.out.below hw5 hw1).below hb (by have:=hw5.size; omega)) (fun k hk => by have:=is5.lo k hk; omega);rw [is5.val, <- HN.out] at hs2;have hba:=below_drew (Below.refl w5.heap.size w5);have hbb:=below_drew ((Below.refl w5.heap.size w5).alloc (Nat.le_refl _) (.cells #[.slice none 0 0, .int .i64 0] 24));have bz:=(Blk.new w5 24 #[.slice none 0 0, .int .i64 0]).drew;have hfaa:=hfa _ hba;have hfab:=hfa _ hbb;obtain ⟨TZ, hTZ⟩ : ∃ TZ, TZ = TopZ s2 l f w5:=⟨_, rfl⟩;have HFAA:=hid hfaa;have HFAB:=hid hfab;have HS2:=hid hs2;have HBA:=hid hba;have HBB:=hid hbb;have BZ:=hid bz;have HTZ:=hid hTZ;have HSET5:=hid hset5;clear hfa hs2 hba hbb bz hfaa hfab hTZ hset5 hw5 is5 x5 r5 yb5 hlo5;go_cut [16, 17] from 96 to 107 (fun s16 s17 wx => ∃ (zb : Nat) (A2 : Option Addr) (ca2 : Nat), s16 = .pointer (some ⟨zb, 0, none⟩) /\ s17 = .int .i64 0 /\ Aside (TZ zb A2 ca2 wx))
     case first =>
      have hlt5 : w.heap.size < w5.heap.size:=F1'.out.2.2.1.lt;go_region_held3 (fun w' => w'.cell? ⟨w.heap.size, 1, none⟩ = some (.int .i64 f)) (first | exact y1 | exact q1 | exact q7 | exact blk_keep1 b7 (by omega) | go_keep)
       (first | (go_at_call 10; first | (refine HFAA.out.mono ?_; rintro e w6 ⟨A6, c6, rfl, hI6, hn6, hB6⟩; have hb6:=HBA.out.trans (hB6.mono HBA.out.size); have q1:=(F1'.out.2.2.1.keep hb6).cell 1; have hlt6:=(F1'.out.2.2.1.keep hb6).lt; simp only [qTa, qTb, qTc] at q1) | (refine HFAB.out.mono ?_; rintro e wa ⟨A6, c6, rfl, hI6, hn6, hB6⟩; have hb6:=HBB.out.trans (hB6.mono HBB.out.size); have z6:=BZ.out.keep hB6; have q1:=(F1'.out.2.2.1.keep hb6).cell 1; have hlta:=(F1'.out.2.2.1.keep hb6).lt; simp only [qTa, qTb, qTc] at q1)) | (go_at_call 9; first | (refine (HS2.out wa A6 c6 hb6 hI6 hn6).mono ?_; rintro e w7 ⟨A2, ca2, L2, rfl, hR7, hm7, hn7⟩; have b7:=hn7.blk ((F1'.out.2.2.1.keep hb6)) hlta (fun e => by have:=F1'.out.2.1.lo _ e; omega); have q7:=b7.cell 1; simp only [qTa, qTb, qTc] at q7; have z7:=hn7.blk z6 z6.lt (fun e => by have:=HSET5.out _ e; omega); have e0:=z7.cell 0; have e1:=z7.cell 1; have ef:=z7.frozen; simp only [qTa, qTb, qTc] at e0 e1) | (refine (HS2.out w6 A6 c6 hb6 hI6 hn6).mono ?_; rintro e w7 ⟨A2, ca2, L2, rfl, hR7, hm7, hn7⟩; have b7:=hn7.blk ((F1'.out.2.2.1.keep hb6)) hlt6 (fun e => by have:=F1'.out.2.1.lo _ e; omega); have q7:=b7.cell 1; simp only [qTa, qTb, qTc] at q7) | (refine (HS2.out (w6.alloc (.cells #[.slice none 0 0, .int .i64 0] 24)) A6 c6 (hb6.alloc hb6.size _) (hI6.alloc _) hn6).mono ?_; rintro e w7 ⟨A2, ca2, L2, rfl, hR7, hm7, hn7⟩; have b7:=hn7.blk ((F1'.out.2.2.1.keep hb6).alloc _) (by simp; omega) (fun e => by have:=F1'.out.2.1.lo _ e; omega); have q7:=b7.cell 1; simp only [qTa, qTb, qTc] at q7; have z7:=hn7.blk (Blk.new w6 24 #[.slice none 0 0, .int .i64 0]) (by simp) (fun e => by have:=HSET5.out _ e; have:=hb6.size; omega); have e0:=z7.cell 0; have e1:=z7.cell 1; have ef:=z7.frozen; simp only [qTa, qTb, qTc] at e0 e1)))
      all_goals
       go_wp2_with fail;go_meet
       first
       | exact ⟨w7.heap.size, A2, ca2, rfl, rfl, by rw [HTZ.out]; exact topz_new HSET5.out hb6 hR7 hm7 hn7⟩
       | exact ⟨w5.heap.size, A2, ca2, rfl, rfl, by rw [HTZ.out]; exact topz_set HSET5.out hb6 hR7 hm7 hn7 z7 (Nat.le_refl _)⟩
       | exact ⟨w6.heap.size, A2, ca2, rfl, rfl, by rw [HTZ.out]; exact topz_set HSET5.out (hb6.alloc hb6.size _) hR7 hm7 hn7 z7 hb6.size⟩
     obtain ⟨zb, A2, ca2, rfl, rfl, hZ⟩:=hcut;have hZ2:=hZ.out;rw [HTZ.out] at hZ2;obtain ⟨z7, ⟨L2, hR2, hm2⟩, hn7⟩:=hZ2;obtain ⟨hw5, is5, x5, r5, yb5, hlo5⟩:=F1'.out;obtain ⟨s3, is7, hsub7, ho7⟩:=is5.near hn7;have hs5:=HS5.out;have hw7 : Below w.heap.size w wc:=hw5.trans (ho7.below hw5.size (fun k hk => by
      rcases hk with hk | hk
      ·have:=is5.lo k hk; omega
      ·exact Nat.le_trans hw5.size hk))
     have x7:=hn7.blk x5 x5.lt (fun e => by have:=is5.lo _ e; omega);have r7:=r5.only ho7 (fun k h1 h2 h3 => by
      rcases h3 with h3 | h3
      ·have:=hlo5 k h3; omega
      ·omega)
     have y7:=hn7.blk yb5 yb5.lt (fun e => by have:=hlo5 _ e; omega);have o7:=r7.objs;rw [HM1.out] at o7;have oz:=hR2.objs;rw [hm2] at oz;rw [<- HN.out] at z7;have hl1 : n1 <= 9223372036854775807:=by omega
     have htab7 : Tabs wc:=HTAB.out.below hw7 hw1;have hwc : 1 < wc.heap.size:=by have:=hw7.size; omega
     have hfn:=flatNew_any wc;have HFN:=hid hfn;have HW7:=hid hw7;have X7:=hid x7;have Y7:=hid y7;have Z7:=hid z7;have O7:=hid o7;have OZ:=hid oz;have IS7:=hid is7;have HTAB7:=hid htab7;clear hZ z7 hR2 hm2 hn7 hw5 is5 x5 r5 yb5 hlo5 is7 hsub7 ho7 hs5 hw7 x7 r7 y7 o7 oz htab7 hfn y0 y1 F1' HFAA HFAB HS2 HBA HBB BZ HTZ HSET5 HS5;go_wp2_with fail;refine HFN.out.mono ?_;rintro e w8 ⟨P, rfl, hF, hPs, hb8⟩;have hld2 : Calls Tryz.prog 6 #[.iface 40 (.pointer (some ⟨P.f, 0, none⟩)), .agg #[.slice A1 n1 cap1, .int .i64 F1]] w8 (ILoadPost (.flat P) yl F1 w8):=by rw [HN1.out];exact imgload_any (.flat P) yl A1 cap1 F1 wc w8 hF O7.out hb8 hPs (by rw [<- HN1.out]; exact hl1) (HTAB7.out.below hb8 hwc)
     have y8:=Y7.out.keep hb8;have y0:=y8.cell 0;have y1:=y8.cell 1;simp only [qTa, qTb, qTc] at y0 y1;have HLD2:=hid hld2;have HB8:=hid hb8;have HPS:=hid hPs;clear hld2 hF hb8 y8 hPs;go_wp2_with fail;refine HLD2.out.mono ?_;intro e w9 hp;obtain ⟨rfl, P', hF9, ht9⟩ : e = .returned (.int .i64 0) /\ ∃ P', FlatAt w9 P' yl /\ Turn (.flat P) w8 (.flat P') w9:=by
      rcases hp with ⟨h1, _⟩ | ⟨_, er, rfl, ⟨rfl, s9, h2, h3⟩ | ⟨h2, _⟩⟩
      ·exact absurd HV1.out h1
      ·obtain ⟨P', rfl, _⟩:=h3.flat;exact ⟨rfl, P', h2, h3⟩
      ·cases h2
     have hPf : P'.f = P.f:=ht9.blk;have hPs9 : ∀ k, P'.set k -> wc.heap.size <= k:=fun k hk => by
      rcases ht9.sub k hk with h | h
      ·exact HPS.out k h
      ·exact Nat.le_trans HB8.out.size h
     have hb9 : Below wc.heap.size wc w9:=HB8.out.trans (ht9.only.below HB8.out.size (fun k hk => HPS.out k hk));have hsp3 : Calls Tryz.prog 9 #[.iface 40 (.pointer (some ⟨P.f, 0, none⟩)), .int .i64 F1, .slice none 0 0] w9 (SnapPost (.flat P') yl F1 [2, 4, 6, 8, F1] w9):=by rw [<- hPf];exact snap_plain (s:=.flat P') hF9 HV1.out (O7.out.bytes) (HTAB7.out.below hb9 hwc) (fun k hk => by have:=hPs9 k hk; omega)
     clear y0 y1;have y9:=Y7.out.keep hb9;have y0:=y9.cell 0;have y1:=y9.cell 1;simp only [qTa, qTb, qTc] at y0 y1;have HSP3:=hid hsp3;have HB9:=hid hb9;have HPS9:=hid hPs9;clear hp hF9 ht9 hPf hPs9 hb9 hsp3 y9 HLD2;go_wp2_with fail;refine HSP3.out.mono ?_;rintro e w10 ⟨A3, cap3, all3, L3, rfl, hN3, hR3, hm3, hn3⟩;obtain ⟨e1, e2⟩:=law_again HVAL.out HNE.out (by rw [<- HYL.out, <- HF1.out]; exact hN3);rw [<- HYL.out] at e1;rw [<- HF1.out] at e2;rw [e1] at hR3 hm3 ⊢;rw [e2];have ow:=hR3.objs;rw [hm3] at ow;rw [<- HN1.out];have hb10 : Below wc.heap.size wc w10:=by
      obtain ⟨_, _, _, _, _, ho⟩:=hn3;refine HB9.out.trans (ho.below HB9.out.size (fun k hk => ?_));rcases hk with hk | hk
      ·exact HPS9.out k hk
      ·exact Nat.le_trans HB9.out.size hk
     have hal:=(Below.refl w10.heap.size w10).alloc (Nat.le_refl _) (.cells #[.slice A3 n1 cap3, .int .i64 F1] 24);have hb11:=hb10.trans (hal.mono hb10.size);have w11b:=Blk.new w10 24 #[.slice A3 n1 cap3, .int .i64 F1];have x11:=X7.out.keep hb11;have y11:=Y7.out.keep hb11;have z11:=Z7.out.keep hb11;clear y0 y1;have x0:=x11.cell 0;have x1:=x11.cell 1;have y0:=y11.cell 0;have y1:=y11.cell 1;have z0:=z11.cell 0;have z1:=z11.cell 1;have hsm1:=same_imgs l A2 A ca2 cap f _ (OZ.out.below hb11) ((HA.out.below HW7.out).below hb11) (by rw [<- HN.out]; exact hl);rw [<- HN.out] at hsm1;simp only [qTa, qTb, qTc] at x0 x1 y0 y1 z0 z1;have hsm2:=fun W (hb : Below w10.heap.size w10 W) (hbw : Below wc.heap.size wc W) => same_imgs yl A3 A1 cap3 cap1 F1 W (ow.below hb) (O7.out.below hbw) (by rw [<- HN1.out]; exact hl1);rw [<- HN1.out] at hsm2;have HSM1:=hid hsm1;have HSM2:=hid hsm2;have HB11:=hid hb11;have HAL:=hid hal;have HW11:=hid w11b;clear hN3 hR3 hm3 hn3 e1 e2 ow hb10 hal hb11 w11b x11 y11 z11 hsm1 hsm2 HSP3;go_wp2_with fail;refine HSM1.out.mono ?_;rintro e w12 ⟨rfl, hb12⟩;have hb12c:=HB11.out.trans (hb12.mono HB11.out.size);have hb12w:=HAL.out.trans (hb12.mono HAL.out.size);have w12b:=HW11.out.keep hb12;have y12:=Y7.out.keep hb12c;clear x0 x1 y0 y1 z0 z1;have v0:=w12b.cell 0;have v1:=w12b.cell 1;have y0:=y12.cell 0;have y1:=y12.cell 1;simp only [qTa, qTb, qTc] at v0 v1 y0 y1;have hsm:=HSM2.out w12 hb12w hb12c;have HSM:=hid hsm;have HB12:=hid hb12c;clear hb12 hb12c hb12w w12b y12 hsm HSM1 HSM2;go_wp2_with fail;refine HSM.out.mono ?_;rintro e w13 ⟨rfl, hb13⟩;have hb13c:=HB12.out.trans (hb13.mono HB12.out.size);have is13:=IS7.out.below hb13c;have hsd:=is13.sound;have HSD:=hid hsd;have IS13:=hid is13;have HB13:=hid (HW7.out.trans (hb13c.mono HW7.out.size));clear hb13 hb13c is13 hsd v0 v1 y0 y1 HSM;go_wp2_with fail;refine HSD.out.mono ?_;rintro e w14 ⟨rfl, ho14⟩;have hb14:=HB13.out.trans (ho14.below HB13.out.size (fun k hk => by have:=IS13.out.lo k hk; omega));have hkn:=known_any w14;have HKN:=hid hkn;have HB14:=hid hb14;clear ho14 hb14 hkn;go_wp2_with fail;refine HKN.out.mono ?_;rintro e w15 ⟨rfl, hb15⟩;go_wp2_with fail;go_ret;exact ⟨rfl, HB14.out.trans (hb15.mono HB14.out.size)⟩
  | succ g =>
   have hjn : (j : Int) < n:=by omega
   obtain ⟨o, ho⟩ : ∃ o, l[j]? = some o:=⟨_, getElem?_eq_getElem (by have:=HN.out; omega)⟩;obtain ⟨b2, off, rfl⟩:=HA.out.addr (by have:=(List.getElem?_eq_some_iff.1 ho).1; omega);obtain ⟨Aj, caj, Bj, cbj, -, r0, r1, r2, r3⟩:=((HA.out.below hb1.out).below hB.out).row ho;have hB' : Aside (Below w1.heap.size w1 wr.drew):=below_drew hB.out;clear ho r0 r1 hB;go_upto_region 5 with (fail);go_region
   all_goals
    go_wp2_with fail;go_roundg g
    case measure => omega
    case rel => exact ⟨j + 1, _, by omega, rfl, by go_num, hB'⟩
end Go.Proofs.YtgaemfghpibeeaaGreatDoor
