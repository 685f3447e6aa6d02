/-
  What an image is asked: its methods, its code, its references, its names. Conditions: each theorem names its own.
-/
import Derived.Test.YtgaemfghpibeeaaGreatDoorPk11
set_option maxRecDepth 100000
set_option maxHeartbeats 6000000
open Go.Lib (hid)
open List (getElem?_eq_getElem mem_of_getElem? getElem?_append_left getElem?_append_right getD_eq_getElem?_getD eq_nil_of_length_eq_zero getElem?_eq_none_iff length_replicate take_of_length_le length_set length_append)
namespace Go.Proofs.YtgaemfghpibeeaaGreatDoor
open Go.RowKit
theorem test50_any (o : Ob) (A : Option Addr) (ca : Nat) (B : Option Addr) (cb : Nat) (w : World) (hO : ObR w o A ca B cb) :
  Calls Tryz.prog 50 #[.agg (obV o A ca B cb)] w fun e w' => e = .returned (.bool (!checkM o)) /\ Below w.heap.size w w':=by
 have hal:=(Below.refl w.heap.size w).alloc (Nat.le_refl _) (.cells (obV o A ca B cb) 29);have hck:=check_any o A ca B cb _ (hO.alloc (.cells (obV o A ca B cb) 29));have b0:=Blk.new w 29 (obV o A ca B cb);unfold obV at *;obtain ⟨n1, hn1⟩ : ∃ n, n = o.ws.length:=⟨_, rfl⟩;obtain ⟨n2, hn2⟩ : ∃ n, n = o.bs.length:=⟨_, rfl⟩;rw [<- hn1, <- hn2] at hal hck b0 ⊢;have c0:=b0.cell 0;have c1:=b0.cell 1;have c2:=b0.cell 2;have c3:=b0.cell 3;simp only [qTa, qTb, qTc] at c0 c1 c2 c3;obtain ⟨r, hr⟩ : ∃ r, r = checkM o:=⟨_, rfl⟩;rw [<- hr] at hck ⊢;have HCK:=hid hck;have HAL:=hid hal;clear hck hal b0 hO hr hn1 hn2;cases r with
 | true => have e : errOf true = 0:=rfl;rw [e] at HCK;clear e;go_enter Tryz.func50, Tryz.ntmps50;go_wp2_with fail;refine HCK.out.mono ?_;rintro e w2 ⟨rfl, hb⟩;have HB:=hid (HAL.out.trans (hb.mono HAL.out.size));clear hb HAL HCK;go_wp2_with fail;go_ret;exact ⟨rfl, HB.out⟩
 | false => have e : errOf false = 2:=rfl;rw [e] at HCK;clear e;go_enter Tryz.func50, Tryz.ntmps50;go_wp2_with fail;refine HCK.out.mono ?_;rintro e w2 ⟨rfl, hb⟩;have HB:=hid (HAL.out.trans (hb.mono HAL.out.size));clear hb HAL HCK;go_wp2_with fail;go_ret;exact ⟨rfl, HB.out⟩
theorem idx81_any (A : Option Addr) (l : List Ob) (cap : Nat) (w : World) (h : ObjsAt w A l) (hl : l.length <= 9223372036854775807) :
  Calls Tryz.prog 81 #[.slice A l.length cap, .func (.func 50) #[] #[]] w fun e w' => ∃ r : Int, e = .returned (.int .i64 r) /\ decide (0 <= r) = !l.all checkM /\ Below w.heap.size w w':=by
 obtain ⟨n, hn⟩ : ∃ n, n = l.length:=⟨_, rfl⟩;rw [<- hn] at hl ⊢;have HN:=hid hn;have H:=hid h;clear hn h;go_enter Tryz.func81, Tryz.ntmps81;go_wp2_with fail;go_loopg [8] n (fun gk s8 wr => ∃ j : Nat, j + gk = n /\ s8 = .int .i64 j /\ Aside (Below w.heap.size w wr) /\ Aside (∀ i, i < j -> ∀ x, l[i]? = some x -> checkM x = true))
 case atStart => exact ⟨0, by omega, rfl, Below.refl _ _, fun i hi => absurd hi (by omega)⟩
 case round =>
  obtain ⟨j, hj, rfl, hB, hall⟩:=hrel;cases gk with
  | zero =>
   have hjn : ¬ ((j : Int) < n):=by omega
   have hr : (!l.all checkM) = false:=by rw [Bool.not_eq_false', List.all_eq_true];intro x hx;obtain ⟨i, hi⟩:=List.getElem?_of_mem hx;exact hall.out i (by have:=(List.getElem?_eq_some_iff.1 hi).1; have:=HN.out; omega) x hi
   have HR:=hid hr;have HB:=hid hB.out;clear hr hall hB;go_wp2_with fail;go_ret;exact ⟨-1, rfl, by rw [HR.out]; rfl, HB.out⟩
  | succ g =>
   have hjn : (j : Int) < n:=by omega
   obtain ⟨x, hx⟩ : ∃ x, l[j]? = some x:=⟨_, getElem?_eq_getElem (by have:=HN.out; omega)⟩;obtain ⟨b, off, Aj, caj, Bj, cbj, rfl, _, hO, q0, q1, q2, q3⟩:=(H.out.below hB.out) j x hx;have ht:=test50_any x Aj caj Bj cbj wr hO;unfold obV at ht;obtain ⟨n1, hn1⟩ : ∃ n, n = x.ws.length:=⟨_, rfl⟩;obtain ⟨n2, hn2⟩ : ∃ n, n = x.bs.length:=⟨_, rfl⟩;rw [<- hn1, <- hn2] at ht;rw [<- hn1] at q2;rw [<- hn2] at q3;obtain ⟨r, hr⟩ : ∃ r, r = checkM x:=⟨_, rfl⟩;rw [<- hr] at ht;have HT:=hid ht;have HX:=hid hx;have HR:=hid hr;have HBW:=hid hB.out;clear ht hx hr hn1 hn2 hB hO;cases r with
   | true =>
    go_wp2_with fail;refine HT.out.mono ?_;rintro e w2 ⟨rfl, hb⟩;have e1 : Aside (Below w.heap.size w w2):=HBW.out.trans (hb.mono HBW.out.size);have e2 : Aside (∀ i, i < j + 1 -> ∀ x, l[i]? = some x -> checkM x = true):=by
     intro i hi y hy;rcases Nat.lt_or_ge i j with h1 | h1
     ·exact hall.out i h1 y hy
     ·have : i = j:=by omega
      subst this;rw [HX.out] at hy;cases hy
      exact HR.out.symm
    clear hb HBW HT hall;go_wp2_with fail;go_roundg g
    case measure => omega
    case rel => exact ⟨j + 1, by omega, by go_num, e1, e2⟩
   | false =>
    have hr : (!l.all checkM) = true:=by rw [Bool.not_eq_true', List.all_eq_false];exact ⟨x, mem_of_getElem? HX.out, by rw [<- HR.out]; simp⟩
    have HRR:=hid hr;clear hr;go_wp2_with fail;refine HT.out.mono ?_;rintro e w2 ⟨rfl, hb⟩;have e1:=hid (HBW.out.trans (hb.mono HBW.out.size));clear hb HBW HT hall;go_wp2_with fail;go_ret;exact ⟨(j : Int), rfl, by rw [HRR.out]; simp, e1.out⟩
theorem has49_any (A : Option Addr) (l : List Ob) (cap : Nat) (w : World) (h : ObjsAt w A l) (hl : l.length <= 9223372036854775807) :
  Calls Tryz.prog 49 #[.slice A l.length cap, .func (.func 50) #[] #[]] w fun e w' => e = .returned (.bool (!l.all checkM)) /\ Below w.heap.size w w':=by
 have hx:=idx81_any A l cap w h hl;obtain ⟨n, hn⟩ : ∃ n, n = l.length:=⟨_, rfl⟩;rw [<- hn] at hx ⊢;obtain ⟨b, hb⟩ : ∃ b, b = !l.all checkM:=⟨_, rfl⟩;rw [<- hb] at hx ⊢;have HX:=hid hx;clear hx hn hb h hl;go_enter Tryz.func49, Tryz.ntmps49;go_wp2_with fail;refine HX.out.mono ?_;rintro e w2 ⟨r, rfl, hr, hb⟩;have HR:=hid hr;have HB:=hid hb;clear hr hb HX;go_wp2_with fail;go_ret;exact ⟨by rw [<- HR.out]; rfl, HB.out⟩
theorem m31_next (a : Addr) (w : World) : (method 438 31 (.pointer (some a)) "Next").run Tryz.prog w = .ok (161, .pointer (some a)) w:=by kernel_rfl
theorem m31_made (a : Addr) (w : World) : (method 438 31 (.pointer (some a)) "Made").run Tryz.prog w = .ok (159, .pointer (some a)) w:=by kernel_rfl
theorem m31_new (a : Addr) (w : World) : (method 438 31 (.pointer (some a)) "New").run Tryz.prog w = .ok (160, .pointer (some a)) w:=by kernel_rfl
theorem m31_set (a : Addr) (w : World) : (method 438 31 (.pointer (some a)) "Set").run Tryz.prog w = .ok (163, .pointer (some a)) w:=by kernel_rfl
theorem m31_setb (a : Addr) (w : World) : (method 438 31 (.pointer (some a)) "SetByte").run Tryz.prog w = .ok (164, .pointer (some a)) w:=by kernel_rfl
theorem m31_obj (a : Addr) (w : World) : (method 438 31 (.pointer (some a)) "Obj").run Tryz.prog w = .ok (162, .pointer (some a)) w:=by kernel_rfl
theorem m40_made (a : Addr) (w : World) : (method 438 40 (.pointer (some a)) "Made").run Tryz.prog w = .ok (231, .pointer (some a)) w:=by kernel_rfl
theorem m40_new (a : Addr) (w : World) : (method 438 40 (.pointer (some a)) "New").run Tryz.prog w = .ok (232, .pointer (some a)) w:=by kernel_rfl
theorem m40_set (a : Addr) (w : World) : (method 438 40 (.pointer (some a)) "Set").run Tryz.prog w = .ok (235, .pointer (some a)) w:=by kernel_rfl
theorem m40_setb (a : Addr) (w : World) : (method 438 40 (.pointer (some a)) "SetByte").run Tryz.prog w = .ok (236, .pointer (some a)) w:=by kernel_rfl
theorem m40_obj (a : Addr) (w : World) : (method 438 40 (.pointer (some a)) "Obj").run Tryz.prog w = .ok (234, .pointer (some a)) w:=by kernel_rfl
theorem n31_new (a : Addr) (w : World) : (nilAhead 438 31 (.pointer (some a)) "New").run Tryz.prog w = .ok (some false) w:=by kernel_rfl
theorem n31_set (a : Addr) (w : World) : (nilAhead 438 31 (.pointer (some a)) "Set").run Tryz.prog w = .ok (some false) w:=by kernel_rfl
theorem n31_setb (a : Addr) (w : World) : (nilAhead 438 31 (.pointer (some a)) "SetByte").run Tryz.prog w = .ok (some false) w:=by kernel_rfl
theorem n31_obj (a : Addr) (w : World) : (nilAhead 438 31 (.pointer (some a)) "Obj").run Tryz.prog w = .ok (some false) w:=by kernel_rfl
theorem n40_new (a : Addr) (w : World) : (nilAhead 438 40 (.pointer (some a)) "New").run Tryz.prog w = .ok (some false) w:=by kernel_rfl
theorem n40_set (a : Addr) (w : World) : (nilAhead 438 40 (.pointer (some a)) "Set").run Tryz.prog w = .ok (some false) w:=by kernel_rfl
theorem n40_setb (a : Addr) (w : World) : (nilAhead 438 40 (.pointer (some a)) "SetByte").run Tryz.prog w = .ok (some false) w:=by kernel_rfl
theorem n40_obj (a : Addr) (w : World) : (nilAhead 438 40 (.pointer (some a)) "Obj").run Tryz.prog w = .ok (some false) w:=by kernel_rfl
def Sto.ty (s : Sto) : TypeId:=s.pick 31 40
structure Finds (T : TypeId) (r : Value) (F1 F2 F3 F4 F5 : FuncId) : Prop where
 made : ∀ w, (method 438 T r "Made").run Tryz.prog w = .ok (F1, r) w
 new : ∀ w, (method 438 T r "New").run Tryz.prog w = .ok (F2, r) w
 set : ∀ w, (method 438 T r "Set").run Tryz.prog w = .ok (F3, r) w
 setb : ∀ w, (method 438 T r "SetByte").run Tryz.prog w = .ok (F4, r) w
 obj : ∀ w, (method 438 T r "Obj").run Tryz.prog w = .ok (F5, r) w
 nnew : ∀ w, (nilAhead 438 T r "New").run Tryz.prog w = .ok (some false) w
 nset : ∀ w, (nilAhead 438 T r "Set").run Tryz.prog w = .ok (some false) w
 nsetb : ∀ w, (nilAhead 438 T r "SetByte").run Tryz.prog w = .ok (some false) w
 nobj : ∀ w, (nilAhead 438 T r "Obj").run Tryz.prog w = .ok (some false) w
 cmade : ∀ args w, (callFunc F1 args).run Tryz.prog w = .ok (.enter F1 args) w
 cnew : ∀ args w, (callFunc F2 args).run Tryz.prog w = .ok (.enter F2 args) w
 cset : ∀ args w, (callFunc F3 args).run Tryz.prog w = .ok (.enter F3 args) w
 csetb : ∀ args w, (callFunc F4 args).run Tryz.prog w = .ok (.enter F4 args) w
 cobj : ∀ args w, (callFunc F5 args).run Tryz.prog w = .ok (.enter F5 args) w
theorem Sto.finds (s : Sto) : Finds s.ty s.recv (s.pick 159 231) (s.pick 160 232) (s.pick 163 235) (s.pick 164 236) (s.pick 162 234):=by
 cases s with
 | loom N NW NS p S => exact ⟨m31_made _, m31_new _, m31_set _, m31_setb _, m31_obj _, n31_new _, n31_set _, n31_setb _, n31_obj _, fun _ _ => by kernel_rfl, fun _ _ => by kernel_rfl, fun _ _ => by kernel_rfl, fun _ _ => by kernel_rfl, fun _ _ => by kernel_rfl⟩
 | flat P => exact ⟨m40_made _, m40_new _, m40_set _, m40_setb _, m40_obj _, n40_new _, n40_set _, n40_setb _, n40_obj _, fun _ _ => by kernel_rfl, fun _ _ => by kernel_rfl, fun _ _ => by kernel_rfl, fun _ _ => by kernel_rfl, fun _ _ => by kernel_rfl⟩
theorem Sto.val_eq (s : Sto) : s.val = .iface s.ty s.recv:=rfl
def StepR (wa : World) (m : Value) (o : Ob) (er : Int) (w : World) (e : Ending) (w' : World) : Prop :=
 ∃ Aj caj Bj cbj, e = .returned (.tuple #[m, .agg (toldO o Aj caj Bj cbj er)]) /\ ObR wa o Aj caj Bj cbj /\ Below w.heap.size w w'
def GetR (wa : World) (o : Ob) (er : Int) (w : World) (e : Ending) (w' : World) : Prop :=
 ∃ Aj caj Bj cbj, e = .returned (.tuple #[.agg (obV o Aj caj Bj cbj), .int .i64 er]) /\ ObR wa o Aj caj Bj cbj /\ Below w.heap.size w w'
theorem obR_dflt (w : World) : ObR w dfltO none 0 none 0:=⟨Ints.nil _ _, Byts.nil _ _, by simp [dfltO], by simp [dfltO], by omega, by omega, fun _ => rfl, fun _ => rfl, by simp [dfltO], by simp [dfltO]⟩
theorem rget_of (A : Option Addr) (n cap : Nat) (r : Int) (o : Ob) (er : Int) (wa w : World)
  (hf : ∀ W, Below w.heap.size w W -> Calls Tryz.prog 57 #[.agg #[.slice A n cap], .agg #[.int .i64 2, .int .i64 r, .int .i64 0, .int .i64 0]] W (StepR wa (.agg #[.slice A n cap]) o er W)) :
  Calls Tryz.prog 24 #[.agg #[.slice A n cap], .int .i64 r] w (GetR wa o er w):=by
 have hal:=((Below.refl w.heap.size w).alloc (Nat.le_refl _) (.cells #[.slice A n cap] 68)).alloc (by simp) (.cells zeroO 29);have b1:=Blk.new2 w (.cells #[.slice A n cap] 68) 29 zeroO;unfold zeroO at *;unfold StepR toldO at hf;obtain ⟨n1, hn1⟩ : ∃ n, n = o.ws.length:=⟨_, rfl⟩;obtain ⟨n2, hn2⟩ : ∃ n, n = o.bs.length:=⟨_, rfl⟩;rw [<- hn1, <- hn2] at hf;have HN1:=hid hn1;have HN2:=hid hn2;have HF:=hid (hf _ hal);have B1:=hid b1;have HAL:=hid hal;clear hf hn1 hn2 b1 hal;go_enter Tryz.func24, Tryz.ntmps24;go_wp2_with fail;refine HF.out.mono ?_;rintro e w2 ⟨Aj, caj, Bj, cbj, rfl, hO, hb⟩;obtain ⟨c, hc⟩ : ∃ c, c = o.cls:=⟨_, rfl⟩;obtain ⟨k, hk⟩ : ∃ c, c = o.kind:=⟨_, rfl⟩;rw [<- hc, <- hk];have y1:=Blk.keep (w':=w2) B1.out hb;have hlt:=y1.lt;have z1:=(y1.alloc (.cells #[.slice A n cap] 68)).alloc (.cells #[.int .i64 0, .int .i64 c, .int .i64 k, .slice Aj n1 caj, .slice Bj n2 cbj, .bool false, .int .i64 er] 130);have z2:=Blk.new2 w2 (.cells #[.slice A n cap] 68) 130 #[.int .i64 0, .int .i64 c, .int .i64 k, .slice Aj n1 caj, .slice Bj n2 cbj, .bool false, .int .i64 er];have hb2:=((HAL.out.trans (hb.mono HAL.out.size)).alloc (by have:=HAL.out.size; have:=hb.size; omega) (.cells #[.slice A n cap] 68)).alloc (by have:=HAL.out.size; have:=hb.size; simp; omega) (.cells #[.int .i64 0, .int .i64 c, .int .i64 k, .slice Aj n1 caj, .slice Bj n2 cbj, .bool false, .int .i64 er] 130);obtain ⟨W, hW⟩ : ∃ W, W = (w2.alloc (.cells #[.slice A n cap] 68)).alloc (.cells #[.int .i64 0, .int .i64 c, .int .i64 k, .slice Aj n1 caj, .slice Bj n2 cbj, .bool false, .int .i64 er] 130):=⟨_, rfl⟩;obtain ⟨g, hg⟩ : ∃ g, g = w2.heap.size:=⟨_, rfl⟩;have hOlt : w.heap.size + 1 < g:=by omega
 rw [<- hW] at z1 z2 hb2;rw [<- hg] at z2;have HW:=hid hW;have HG:=hid hg;have Z1:=hid z1;have HB2:=hid hb2;have HOK:=hid hO;have HC:=hid hc;have HK:=hid hk;have c0:=z1.cell 0;have c1:=z1.cell 1;have c2:=z1.cell 2;have c3:=z1.cell 3;have cf:=z1.frozen;have d0:=z2.cell 0;have d1:=z2.cell 1;have d2:=z2.cell 2;have d3:=z2.cell 3;have d4:=z2.cell 4;have d5:=z2.cell 5;have d6:=z2.cell 6;simp only [qTa, qTb, qTc] at c0 c1 c2 c3 d0 d1 d2 d3 d4 d5 d6;clear hW hg z1 z2 hb2 hc hk y1 hb hO HF B1 HAL hlt;go_upto_region 2 with (fail);rw [<- HW.out, <- HG.out];go_region
 go_wp2_with fail;have x1:=(Z1.out.set1111 (.int .i64 c) (.int .i64 k) (.slice Aj n1 caj) (.slice Bj n2 cbj)).drew;have hb3:=below_drewN (below_four HB2.out (g:=w.heap.size + 1) (by omega) (.int .i64 c) (.int .i64 k) (.slice Aj n1 caj) (.slice Bj n2 cbj)) 1;refine bodyPost_ret (res_cell_tmp (P:=Tryz.prog) (fn:=Tryz.f24) rfl _ _ (w.heap.size + 1) 29 _ (0, 0) _ rfl x1 Tryz.underlying29 rfl size29) rfl ?_;exact ⟨Aj, caj, Bj, cbj, by rw [HC.out, HK.out, HN1.out, HN2.out]; rfl, HOK.out, hb3⟩
theorem getO_namM {V : List Ob} {r : Int} {o : Ob} (h : getO V r = some o) : ∃ j : Nat, namM r = ((j : Int) + 1, true) /\ V[j]? = some o:=by
 unfold getO at h;split at h
 ·rename_i h1
  obtain ⟨h2, h3, h4, h5⟩:=namM_ok h1;refine ⟨(namM r).1.toNat - 1, ?_, h⟩;have : namM r = ((namM r).1, (namM r).2):=rfl;rw [this, h1]
  congr 1;omega
 ·cases h
theorem getO_none {V : List Ob} {r : Int} (h : getO V r = none) : (namM r).2 = false \/ (V.length : Int) < (namM r).1:=by
 unfold getO at h;split at h
 ·rename_i h1
  obtain ⟨h2, h3, h4, h5⟩:=namM_ok h1;rw [getElem?_eq_none_iff] at h;exact .inr (by omega)
 ·rename_i h1
  exact .inl (by simpa using h1)
theorem rget_yes (l : List Ob) (A : Option Addr) (cap : Nat) (r : Int) (o : Ob) (wa w : World) (h : ObjsAt wa A l) (hwa : Below wa.heap.size wa w) (ho : getO l r = some o) (hk : o.kind ≠ 0) (hl : l.length <= 2000) :
  Calls Tryz.prog 24 #[.agg #[.slice A l.length cap], .int .i64 r] w (GetR wa o 0 w):=by
 obtain ⟨j, hr, hj⟩:=getO_namM ho;exact rget_of A l.length cap r o 0 wa w (fun W hb => step_yes l A cap r j o wa W h (hwa.trans (hb.mono hwa.size)) hr hj hk hl)
theorem rget_no (l : List Ob) (A : Option Addr) (cap : Nat) (r : Int) (wa w : World) (ho : getO l r = none) :
  Calls Tryz.prog 24 #[.agg #[.slice A l.length cap], .int .i64 r] w (GetR wa dfltO 4 w) :=
 rget_of A l.length cap r dfltO 4 wa w (fun W _ => (step_no l A cap r W (getO_none ho)).mono (by rintro e w' ⟨rfl, hb⟩; exact ⟨none, 0, none, 0, rfl, obR_dflt _, hb⟩))
def methV (a t p c n : Int) : Array Value:=#[.int .i64 a, .int .i64 t, .int .i64 p, .int .i64 c, .int .i64 n]
def ReadR (o : Ob) (w : World) (e : Ending) (w' : World) : Prop:=Below w.heap.size w w' /\
 ((methM o = none /\ ∃ k : Int, k ≠ 0 /\ e = .returned (.tuple #[.agg (methV 0 0 0 0 0), .int .i64 k])) \/ ∃ a t p c n, methM o = some c /\ e = .returned (.tuple #[.agg (methV a t p c n), .int .i64 0]))
theorem Blk.set5 {w : World} {g : Nat} {t : TypeId} {x0 x1 x2 x3 x4 : Value} (h : Blk w g t #[x0, x1, x2, x3, x4]) (a b c d e : Value) :
  Blk (((((w.setCell ⟨g, 0, none⟩ a).setCell ⟨g, 1, none⟩ b).setCell ⟨g, 2, none⟩ c).setCell ⟨g, 3, none⟩ d).setCell ⟨g, 4, none⟩ e) g t #[a, b, c, d, e]:=by
 simpa using ((((h.set_ 0 a).set_ 1 b).set_ 2 c).set_ 3 d).set_ 4 e
theorem below_five {B : Nat} {a w : World} (h : Below B a w) {g : Nat} (hg : B <= g) (p q r s t : Value) :
  Below B a (((((w.setCell ⟨g, 0, none⟩ p).setCell ⟨g, 1, none⟩ q).setCell ⟨g, 2, none⟩ r).setCell ⟨g, 3, none⟩ s).setCell ⟨g, 4, none⟩ t) :=
 ((((h.setCell (p:=⟨g, 0, none⟩) hg _).setCell (p:=⟨g, 1, none⟩) hg _).setCell (p:=⟨g, 2, none⟩) hg _).setCell (p:=⟨g, 3, none⟩) hg _).setCell (p:=⟨g, 4, none⟩) hg _
theorem methM_no1 {o : Ob} (h : o.kind ≠ 1) : methM o = none:=by unfold methM; rw [if_neg (by omega)]
theorem methM_no2 {o : Ob} (h : o.ws.length < 2) : methM o = none:=by unfold methM; rw [if_neg (by omega)]
theorem methM_no3 {o : Ob} (h : headM (o.ws.getD 0 0) = false) : methM o = none:=by unfold methM; rw [if_neg (by rw [h]; simp)]
theorem methM_yes {o : Ob} (h1 : o.kind = 1) (h2 : 2 <= o.ws.length) (h : headM (o.ws.getD 0 0) = true) : methM o = some (o.ws.getD 1 0):=by unfold methM; rw [if_pos ⟨h1, h2, h⟩]
theorem headM_eq (v h : Int) (ok : Bool) (e : numM v = (h, ok)) : headM v = (ok && (decide (0 <= h) && (decide (h % 16 <= h / 16 % 32) && decide (h / 16 % 32 <= 20)))):=by unfold headM; rw [e]
theorem rread_any (A : Option Addr) (m cap : Nat) (r : Int) (o : Ob) (wa w : World) (hwa : Below wa.heap.size wa w) (hck : checkM o = true)
  (hf : ∀ W, Below w.heap.size w W -> Calls Tryz.prog 24 #[.agg #[.slice A m cap], .int .i64 r] W (GetR wa o 0 W)) :
  Calls Tryz.prog 23 #[.agg #[.slice A m cap], .int .i64 r] w (ReadR o w):=by
 have hal:=((Below.refl w.heap.size w).alloc (Nat.le_refl _) (.cells #[.slice A m cap] 68)).alloc (by simp) (.cells (methV 0 0 0 0 0) 72);have b1:=Blk.new2 w (.cells #[.slice A m cap] 68) 72 (methV 0 0 0 0 0);have hf1:=hf _ hal;have no1:=methM_no1 (o:=o);have no2:=methM_no2 (o:=o);have no3:=methM_no3 (o:=o);have yes:=methM_yes (o:=o);have hbd:=checkM_bd hck;obtain ⟨_, hkk⟩:=checkM_parts hck;unfold methV at b1 hal hf1;unfold GetR obV at hf1;obtain ⟨n1, hn1⟩ : ∃ n, n = o.ws.length:=⟨_, rfl⟩;obtain ⟨n2, hn2⟩ : ∃ n, n = o.bs.length:=⟨_, rfl⟩;obtain ⟨c, hc⟩ : ∃ c, c = o.cls:=⟨_, rfl⟩;obtain ⟨k, hk⟩ : ∃ c, c = o.kind:=⟨_, rfl⟩;rw [<- hn1, <- hn2, <- hc, <- hk] at hf1;rw [<- hn1] at no2 yes;rw [<- hk] at no1 yes;have hn1b : n1 <= 1000:=by
  rcases hkk with ⟨_, _, h3, _⟩ | ⟨_, h3, _⟩
  ·omega
  ·rw [hn1, h3]; simp
 have HN1:=hid hn1;have HK:=hid hk;have HF:=hid hf1;have B1:=hid b1;have HAL:=hid hal;have HWA:=hid hwa;have NO3:=hid no3;have YES:=hid yes;have HBD:=hid hbd;clear hf hf1 hn1 hn2 hc hk b1 hal hwa no3 yes hbd hkk hck;go_enter Tryz.func23, Tryz.ntmps23;go_wp2_with fail;refine HF.out.mono ?_;rintro e w2 ⟨Aj, caj, Bj, cbj, rfl, hO, hb⟩;have y1:=Blk.keep (w':=w2) B1.out hb;have hlt:=y1.lt;have z1:=y1.alloc (.cells #[.int .i64 c, .int .i64 k, .slice Aj n1 caj, .slice Bj n2 cbj] 29);have z2:=Blk.new w2 29 #[.int .i64 c, .int .i64 k, .slice Aj n1 caj, .slice Bj n2 cbj];have hbw:=HAL.out.trans (hb.mono HAL.out.size);have hb2:=hbw.alloc hbw.size (.cells #[.int .i64 c, .int .i64 k, .slice Aj n1 caj, .slice Bj n2 cbj] 29);have hI:=hO.ints.below ((HWA.out.trans (hb2.mono HWA.out.size)));obtain ⟨W, hW⟩ : ∃ W, W = w2.alloc (.cells #[.int .i64 c, .int .i64 k, .slice Aj n1 caj, .slice Bj n2 cbj] 29):=⟨_, rfl⟩;obtain ⟨g, hg⟩ : ∃ g, g = w2.heap.size:=⟨_, rfl⟩;rw [<- hW] at z1 z2 hb2 hI;rw [<- hg] at z2 hlt;have c0:=z2.cell 0;have c1:=z2.cell 1;have c2:=z2.cell 2;have c3:=z2.cell 3;have t0:=z1.cell 0;have t1:=z1.cell 1;have t2:=z1.cell 2;have t3:=z1.cell 3;have t4:=z1.cell 4;have tf:=z1.frozen;simp only [qTa, qTb, qTc] at c0 c1 c2 c3 t0 t1 t2 t3 t4;have HW:=hid hW;have HG:=hid hg;have Z1:=hid z1;have HB2:=hid hb2;have HI:=hid hI;clear hW hg z1 z2 hb2 hI hbw y1 hb hO HF B1 HAL HWA;by_cases k1 : k = 1
 ·subst k1;clear no1;by_cases h2 : n1 < 2
  ·have N:=hid (no2 h2);clear no2 NO3 YES;go_upto_region 4 with (fail);rw [<- HW.out, <- HG.out];go_wp2_with fail;refine bodyPost_ret (res_cell_tmp (P:=Tryz.prog) (fn:=Tryz.f23) rfl _ _ (w.heap.size + 1) 72 _ (0, 0) _ rfl (Z1.out.set5 _ _ _ _ _) Tryz.underlying72 rfl size72) rfl ?_;exact ⟨below_five HB2.out (by omega) _ _ _ _ _, .inl ⟨N.out, 2, by omega, rfl⟩⟩
  ·obtain ⟨v0, hv0⟩ : ∃ x, o.ws[0]? = some x:=⟨_, getElem?_eq_getElem (by have:=HN1.out; omega)⟩;obtain ⟨v1, hv1⟩ : ∃ x, o.ws[1]? = some x:=⟨_, getElem?_eq_getElem (by have:=HN1.out; omega)⟩;obtain ⟨hv0b, b, off, rfl, _, q0⟩:=HI.out 0 v0 hv0;obtain ⟨_, b', off', e2, _, q1⟩:=HI.out 1 v1 hv1;have hn2' : ¬ ((n1 : Int) < 2):=by omega
   injection e2 with e2;injection e2 with e3 e4;subst e3;subst e4;rw [Nat.add_zero] at q0;have hd0 : o.ws.getD 0 0 = v0:=by rw [getD_eq_getElem?_getD, hv0]; rfl
   have hd1 : o.ws.getD 1 0 = v1:=by rw [getD_eq_getElem?_getD, hv1]; rfl
   have no3:=NO3.out;have yes:=YES.out (by trivial) (by omega);rw [hd0] at no3 yes;rw [hd1] at yes;have hnum:=fun W => rnumber_any v0 W hv0b;have hbn : (numM v0).2 = true -> (numM v0).1 <= 4611686018427387904:=fun e => by have:=numM_ok e; omega
   obtain ⟨nm, hnm⟩ : ∃ nm, nm = numM v0:=⟨_, rfl⟩;rw [<- hnm] at hnum hbn;have hhd:=headM_eq v0 nm.1 nm.2 hnm.symm;obtain ⟨h, ok⟩:=nm;simp only at hhd hnum hbn;rw [hhd] at no3 yes;have HNUM:=hid hnum;clear hv0 hv1 hv0b hd0 hd1 hhd hnm hnum no2 NO3 YES HI h2;cases ok with
   | false => have N:=hid (no3 rfl);clear no3 yes;go_upto_region 4 with (fail);rw [<- HW.out, <- HG.out];go_wp2_with fail;refine (HNUM.out _).mono ?_;rintro e w3 ⟨rfl, rfl⟩;go_wp2_with fail;refine bodyPost_ret (res_cell_tmp (P:=Tryz.prog) (fn:=Tryz.f23) rfl _ _ (w.heap.size + 1) 72 _ (0, 0) _ rfl (Z1.out.set5 _ _ _ _ _) Tryz.underlying72 rfl size72) rfl ?_;exact ⟨below_five HB2.out (by omega) _ _ _ _ _, .inl ⟨N.out, 2, by omega, rfl⟩⟩
   | true =>
    by_cases p0 : h < 0
    ·have N:=hid (no3 (by simp; omega));clear no3 yes;go_upto_region 4 with (fail);rw [<- HW.out, <- HG.out];go_wp2_with fail;refine (HNUM.out _).mono ?_;rintro e w3 ⟨rfl, rfl⟩;go_wp2_with fail;refine bodyPost_ret (res_cell_tmp (P:=Tryz.prog) (fn:=Tryz.f23) rfl _ _ (w.heap.size + 1) 72 _ (0, 0) _ rfl (Z1.out.set5 _ _ _ _ _) Tryz.underlying72 rfl size72) rfl ?_;exact ⟨below_five HB2.out (by omega) _ _ _ _ _, .inl ⟨N.out, 2, by omega, rfl⟩⟩
    ·have p0' : 0 <= h:=by omega
     have p3 : h <= 4611686018427387904:=hbn rfl;clear hbn;by_cases p1 : h / 16 % 32 < h % 16
     ·have N:=hid (no3 (by simp; omega));clear no3 yes;go_upto_region 4 with (fail);rw [<- HW.out, <- HG.out];go_wp2_with fail;refine (HNUM.out _).mono ?_;rintro e w3 ⟨rfl, rfl⟩;go_wp2_with fail;refine bodyPost_ret (res_cell_tmp (P:=Tryz.prog) (fn:=Tryz.f23) rfl _ _ (w.heap.size + 1) 72 _ (0, 0) _ rfl (Z1.out.set5 _ _ _ _ _) Tryz.underlying72 rfl size72) rfl ?_;exact ⟨below_five HB2.out (by omega) _ _ _ _ _, .inl ⟨N.out, 2, by omega, rfl⟩⟩
     ·by_cases p2 : 20 < h / 16 % 32
      ·have N:=hid (no3 (by simp; omega));clear no3 yes;go_upto_region 4 with (fail);rw [<- HW.out, <- HG.out];go_wp2_with fail;refine (HNUM.out _).mono ?_;rintro e w3 ⟨rfl, rfl⟩;go_wp2_with fail;refine bodyPost_ret (res_cell_tmp (P:=Tryz.prog) (fn:=Tryz.f23) rfl _ _ (w.heap.size + 1) 72 _ (0, 0) _ rfl (Z1.out.set5 _ _ _ _ _) Tryz.underlying72 rfl size72) rfl ?_;exact ⟨below_five HB2.out (by omega) _ _ _ _ _, .inl ⟨N.out, 2, by omega, rfl⟩⟩
      ·have Y:=hid (yes (by simp; omega));clear no3 yes;go_upto_region 4 with (fail);rw [<- HW.out, <- HG.out];go_wp2_with fail;refine (HNUM.out _).mono ?_;rintro e w3 ⟨rfl, rfl⟩;go_upto_region 11 with (fail);go_region
       go_wp2_with fail;refine bodyPost_ret (res_cell_tmp (P:=Tryz.prog) (fn:=Tryz.f23) rfl _ _ (w.heap.size + 1) 72 _ (0, 0) _ rfl (Z1.out.set5 (.int .i64 (h % 16)) (.int .i64 (h / 16 % 32)) (.int .i64 (h / 512 % 1024)) (.int .i64 v1) (.int .i64 ((n1 : Int) - 2))).drew Tryz.underlying72 rfl size72) rfl ?_;exact ⟨below_drewN (below_five HB2.out (g:=w.heap.size + 1) (by omega) _ _ _ _ _) 1, .inr ⟨_, _, _, _, _, Y.out, rfl⟩⟩
 ·have N:=hid (no1 k1);have hk1 : (k != 1) = true:=by simpa using k1
  clear no1 no2 NO3 YES k1;go_upto_region 4 with (fail);rw [<- HW.out, <- HG.out];go_wp2_with fail;refine bodyPost_ret (res_cell_tmp (P:=Tryz.prog) (fn:=Tryz.f23) rfl _ _ (w.heap.size + 1) 72 _ (0, 0) _ rfl (Z1.out.set5 _ _ _ _ _) Tryz.underlying72 rfl size72) rfl ?_;exact ⟨below_five HB2.out (by omega) _ _ _ _ _, .inl ⟨N.out, 20, by omega, rfl⟩⟩
theorem below_drew {B : Nat} {a w : World} (h : Below B a w) : Below B a w.drew:=below_drewN h 1
theorem i64_and15 (n : Int) : bits .and .i64 n 15 = n % 16:=i64_and_mask n 4 (by omega)
theorem i64_and31 (n : Int) : bits .and .i64 n 31 = n % 32:=i64_and_mask n 5 (by omega)
theorem i64_and1023 (n : Int) : bits .and .i64 n 1023 = n % 1024:=i64_and_mask n 10 (by omega)
theorem right_any (a t p c n : Int) (w : World) (ha : 0 <= a /\ a < 16) (ht : 0 <= t /\ t < 32) (hp : 0 <= p /\ p < 1024) :
  Calls Tryz.prog 109 #[.agg (methV a t p c n)] w fun e w' => e = .returned (.bool (decide (a <= t) && decide (t <= 20))) /\ Below w.heap.size w w':=by
 have hb:=(Below.refl w.heap.size w).alloc (Nat.le_refl _) (.cells (methV a t p c n) 72);unfold methV at *;obtain ⟨a0, a1⟩:=ha;obtain ⟨t0, t1⟩:=ht;obtain ⟨p0, p1⟩:=hp;have HB:=hid hb;clear hb;by_cases h1 : a <= t
 ·by_cases h2 : t <= 20
  ·have e : (decide (a <= t) && decide (t <= 20)) = true:=by simp [h1, h2]
   rw [e];go_enter Tryz.func109, Tryz.ntmps109;go_wp2_with fail;go_ret;exact ⟨rfl, HB.out⟩
  ·have e : (decide (a <= t) && decide (t <= 20)) = false:=by simp [h2]
   rw [e];go_enter Tryz.func109, Tryz.ntmps109;go_wp2_with fail;go_ret;exact ⟨rfl, HB.out⟩
 ·have e : (decide (a <= t) && decide (t <= 20)) = false:=by simp [h1]
  rw [e];go_enter Tryz.func109, Tryz.ntmps109;go_wp2_with fail;go_ret;exact ⟨rfl, HB.out⟩
theorem read_any (P : FlP) (V : List Ob) (i : Nat) (o : Ob) (w : World) (h : FlatAt w P V) (hv : V[i]? = some o) :
  Calls Tryz.prog 79 #[.iface 40 (.pointer (some ⟨P.f, 0, none⟩)), .int .i64 (2 * ((i : Int) + 1))] w (ReadR o w):=by
 have hal:=(Below.refl w.heap.size w).alloc (Nat.le_refl _) (.cells (methV 0 0 0 0 0) 72);have b1:=Blk.new w 72 (methV 0 0 0 0 0);have hf1:=fobj_yes P V i o _ (h.below hal) hv;obtain ⟨ob, hob⟩:=h.get hv;have hobj:=h.objs i ob o hob hv;have hck:=hobj.ok;have hvb:=hobj.vals;have no1:=methM_no1 (o:=o);have no2:=methM_no2 (o:=o);have no3:=methM_no3 (o:=o);have yes:=methM_yes (o:=o);have hszk:=fun A ca B cb W => size_any o A ca B cb W;obtain ⟨_, hkk⟩:=checkM_parts hck;have hpar:=fun (W W' : World) (y : Value) (hF : FreshO o W y W') => hF.parts hck hvb;unfold methV at b1 hal hf1;unfold obV at hszk hpar;obtain ⟨n1, hn1⟩ : ∃ n, n = o.ws.length:=⟨_, rfl⟩;obtain ⟨n2, hn2⟩ : ∃ n, n = o.bs.length:=⟨_, rfl⟩;obtain ⟨c, hc⟩ : ∃ c, c = o.cls:=⟨_, rfl⟩;obtain ⟨k, hk⟩ : ∃ c, c = o.kind:=⟨_, rfl⟩;rw [<- hn1, <- hn2, <- hc, <- hk] at hpar hszk;rw [<- hn1] at no2 yes;rw [<- hk] at no1 yes;have hn1b : n1 <= 1000:=by
  rcases hkk with ⟨_, _, h3, _⟩ | ⟨_, h3, _⟩
  ·omega
  ·rw [hn1, h3]; simp
 have hsz1 : k = 1 -> sizeM o = n1:=fun e => by rw [size1 (by omega), hn1]
 have HN1:=hid hn1;have HK:=hid hk;have HF:=hid hf1;have HPAR:=hid hpar;have B1:=hid b1;have HAL:=hid hal;have NO3:=hid no3;have YES:=hid yes;have HSK:=hid hszk;have m1:=fun W => m40_obj ⟨P.f, 0, none⟩ W;clear hf1 hn1 hn2 hc hk b1 hal no3 yes hkk hck hvb hobj hob hpar hszk h hv;go_enter Tryz.func79, Tryz.ntmps79;go_wp2_with fail;refine HF.out.mono ?_;rintro e w2 ⟨y, rfl, hF, hb⟩;obtain ⟨Aj, caj, Bj, cbj, rfl, hR, hI0, -, -, -⟩:=HPAR.out _ _ y hF;have y1:=Blk.keep (w':=w2) B1.out hb;have hlt:=y1.lt;have z1:=y1.alloc (.cells #[.int .i64 c, .int .i64 k, .slice Aj n1 caj, .slice Bj n2 cbj] 29);have z2:=Blk.new w2 29 #[.int .i64 c, .int .i64 k, .slice Aj n1 caj, .slice Bj n2 cbj];have hbw:=HAL.out.trans (hb.mono HAL.out.size);have hb2:=hbw.alloc hbw.size (.cells #[.int .i64 c, .int .i64 k, .slice Aj n1 caj, .slice Bj n2 cbj] 29);have hI:=hR.ints.alloc (.cells #[.int .i64 c, .int .i64 k, .slice Aj n1 caj, .slice Bj n2 cbj] 29);obtain ⟨W, hW⟩ : ∃ W, W = w2.alloc (.cells #[.int .i64 c, .int .i64 k, .slice Aj n1 caj, .slice Bj n2 cbj] 29):=⟨_, rfl⟩;obtain ⟨g, hg⟩ : ∃ g, g = w2.heap.size:=⟨_, rfl⟩;rw [<- hW] at z1 z2 hb2 hI;rw [<- hg] at z2 hlt;have c0:=z2.cell 0;have c1:=z2.cell 1;have c2:=z2.cell 2;have c3:=z2.cell 3;have t0:=z1.cell 0;have t1:=z1.cell 1;have t2:=z1.cell 2;have t3:=z1.cell 3;have t4:=z1.cell 4;have tf:=z1.frozen;simp only [qTa, qTb, qTc] at c0 c1 c2 c3 t0 t1 t2 t3 t4;have HW:=hid hW;have HG:=hid hg;have Z1:=hid z1;have Z2:=hid z2;have HB2:=hid hb2;have HI:=hid hI;clear hW hg z1 z2 hb2 hI hbw y1 hb hF hR hI0 HF HPAR B1 HAL;by_cases k1 : k = 1
 ·subst k1;rw [hsz1 rfl] at HSK;clear no1 hsz1;by_cases h2 : n1 < 2
  ·have N:=hid (no2 h2);have hn2' : (n1 : Int) < 2:=by omega
   clear no2 NO3 YES h2;go_upto_region 2 with (fail);rw [<- HW.out, <- HG.out];go_wp2_with fail;refine (HSK.out _ _ _ _ _).mono ?_;rintro e w3 ⟨rfl, hb3⟩;have x1:=Z1.out.keep hb3;have hb4:=HB2.out.trans (hb3.mono HB2.out.size);have X1:=hid x1;have HB4:=hid hb4;have xf:=x1.frozen;have t0:=x1.cell 0;have t1:=x1.cell 1;have t2:=x1.cell 2;have t3:=x1.cell 3;have t4:=x1.cell 4;simp only [qTa, qTb, qTc] at t0 t1 t2 t3 t4;clear x1 hb4 hb3;go_wp2_with fail;refine bodyPost_ret (res_cell_tmp (P:=Tryz.prog) (fn:=Tryz.f79) rfl _ _ w.heap.size 72 _ (0, 0) _ rfl (X1.out.set5 _ _ _ _ _) Tryz.underlying72 rfl size72) rfl ?_;exact ⟨below_five HB4.out (Nat.le_refl _) _ _ _ _ _, .inl ⟨N.out, 2, by omega, rfl⟩⟩
  ·obtain ⟨v0, hv0⟩ : ∃ x, o.ws[0]? = some x:=⟨_, getElem?_eq_getElem (by have:=HN1.out; omega)⟩;obtain ⟨v1, hv1⟩ : ∃ x, o.ws[1]? = some x:=⟨_, getElem?_eq_getElem (by have:=HN1.out; omega)⟩;obtain ⟨hv0b, b, off, rfl, hbl, q0⟩:=HI.out 0 v0 hv0;obtain ⟨_, b', off', e2, _, q1⟩:=HI.out 1 v1 hv1;have hn2' : ¬ ((n1 : Int) < 2):=by omega
   injection e2 with e2;injection e2 with e3 e4;subst e3;subst e4;rw [Nat.add_zero] at q0;have hd0 : o.ws.getD 0 0 = v0:=by rw [getD_eq_getElem?_getD, hv0]; rfl
   have hd1 : o.ws.getD 1 0 = v1:=by rw [getD_eq_getElem?_getD, hv1]; rfl
   have no3:=NO3.out;have yes:=YES.out (by trivial) (by omega);rw [hd0] at no3 yes;rw [hd1] at yes;have hnum:=fun W => number_any v0 W;have hbn : (numM v0).2 = true -> (numM v0).1 <= 4611686018427387904:=fun e => by have:=numM_ok e; omega
   obtain ⟨nm, hnm⟩ : ∃ nm, nm = numM v0:=⟨_, rfl⟩;rw [<- hnm] at hnum hbn;have hhd:=headM_eq v0 nm.1 nm.2 hnm.symm;obtain ⟨h, ok⟩:=nm;simp only at hhd hnum hbn;rw [hhd] at no3 yes;have HNUM:=hid hnum;clear NO3 YES;have NOX:=hid no3;have YEX:=hid yes;have HBN:=hid hbn;clear hv0 hv1 hv0b hd0 hd1 hhd hnm hnum no2 HI h2 no3 yes hbn;go_upto_region 2 with (fail);rw [<- HW.out, <- HG.out];go_wp2_with fail;refine (HSK.out _ _ _ _ _).mono ?_;rintro e w3 ⟨rfl, hb3⟩;have x1:=Z1.out.keep hb3;have x2:=Z2.out.keep hb3;have hb4:=HB2.out.trans (hb3.mono HB2.out.size);have X1:=hid x1;have HB4:=hid hb4;have hglt:=x2.lt;have q0:=(hb3.cell (p:=⟨b, off, none⟩) hbl).trans q0;have q1:=(hb3.cell (p:=⟨b, off + 1, none⟩) hbl).trans q1;have c2:=x2.cell 2;simp only [qTa, qTb, qTc] at c2;have hbl3 : b < w3.heap.size:=Nat.lt_of_lt_of_le hbl hb3.size;clear x1 x2 hb4 hb3 c0 c1 c3 t0 t1 t2 t3 t4 tf hbl;go_wp2_with fail;refine (HNUM.out _).mono ?_;rintro e w4 ⟨rfl, rfl⟩;have e15:=i64_and15 h;have e31:=i64_and31 (h / 16);have e1023:=i64_and1023 (h / 512);go_upto_region 9 with (fail);go_region
   have z5:=(X1.out.alloc (.cells (methV (h % 16) (h / 16 % 32) (h / 512 % 1024) v1 ((n1 : Int) - 2)) 72)).drew;have hb5:=below_drew (HB4.out.alloc HB4.out.size (.cells (methV (h % 16) (h / 16 % 32) (h / 512 % 1024) v1 ((n1 : Int) - 2)) 72));have zm:=(Blk.new w3 72 (methV (h % 16) (h / 16 % 32) (h / 512 % 1024) v1 ((n1 : Int) - 2))).drew;have hlt5:=X1.out.lt;obtain ⟨g3, hg3⟩ : ∃ g3, g3 = w3.heap.size:=⟨_, rfl⟩;rw [<- hg3] at zm hlt5;have HG3:=hid hg3;have hrt:=fun W => right_any (h % 16) (h / 16 % 32) (h / 512 % 1024) v1 ((n1 : Int) - 2) W (by omega) (by omega) (by omega);obtain ⟨ma, hma⟩ : ∃ a, a = h % 16:=⟨_, rfl⟩;obtain ⟨mt, hmt⟩ : ∃ a, a = h / 16 % 32:=⟨_, rfl⟩;obtain ⟨mp, hmp⟩ : ∃ a, a = h / 512 % 1024:=⟨_, rfl⟩;obtain ⟨mn, hmn⟩ : ∃ a, a = (n1 : Int) - 2:=⟨_, rfl⟩;unfold methV at z5 hb5 zm hrt;rw [<- hma, <- hmt, <- hmp, <- hmn] at z5 hb5 zm hrt ⊢;rw [<- hma, <- hmt] at NOX YEX;obtain ⟨W5, hW5⟩ : ∃ W, W = (w3.alloc (.cells #[.int .i64 ma, .int .i64 mt, .int .i64 mp, .int .i64 v1, .int .i64 mn] 72)).drew:=⟨_, rfl⟩;obtain ⟨R, hR⟩ : ∃ R, R = (decide (ma <= mt) && decide (mt <= 20)):=⟨_, rfl⟩;rw [<- hR] at hrt NOX YEX;rw [<- hW5] at z5 hb5 zm ⊢;rw [<- hg3];have t0:=z5.cell 0;have t1:=z5.cell 1;have t2:=z5.cell 2;have t3:=z5.cell 3;have t4:=z5.cell 4;have tf:=z5.frozen;have m0:=zm.cell 0;have m1:=zm.cell 1;have m2:=zm.cell 2;have m3:=zm.cell 3;have m4:=zm.cell 4;simp only [qTa, qTb, qTc] at t0 t1 t2 t3 t4 m0 m1 m2 m3 m4;have HRT:=hid hrt;have Z5:=hid z5;have ZM:=hid zm;have HB5:=hid hb5;clear hrt z5 zm hb5 hg3 hma hmt hmp hmn hW5 hR e15 e31 e1023 q0 q1 c2 X1 HB4 HW HG Z1 Z2 HB2;cases ok with
   | false => have N:=hid (NOX.out rfl);clear NOX YEX HBN;go_wp2_with fail;refine bodyPost_ret (res_cell_tmp (P:=Tryz.prog) (fn:=Tryz.f79) rfl _ _ w.heap.size 72 _ (0, 0) _ rfl (Z5.out.set5 _ _ _ _ _) Tryz.underlying72 rfl size72) rfl ?_;exact ⟨below_five HB5.out (Nat.le_refl _) _ _ _ _ _, .inl ⟨N.out, 2, by omega, rfl⟩⟩
   | true =>
    by_cases p0 : h < 0
    ·have N:=hid (NOX.out (by simp; intro; omega));clear NOX YEX HBN;go_wp2_with fail;refine bodyPost_ret (res_cell_tmp (P:=Tryz.prog) (fn:=Tryz.f79) rfl _ _ w.heap.size 72 _ (0, 0) _ rfl (Z5.out.set5 _ _ _ _ _) Tryz.underlying72 rfl size72) rfl ?_;exact ⟨below_five HB5.out (Nat.le_refl _) _ _ _ _ _, .inl ⟨N.out, 2, by omega, rfl⟩⟩
    ·cases R with
     | false => have N:=hid (NOX.out (by simp));clear NOX YEX HBN;go_wp2_with fail;refine (HRT.out _).mono ?_;rintro e w6 ⟨rfl, hb6⟩;have x1:=Z5.out.keep hb6;have hb7:=HB5.out.trans (hb6.mono HB5.out.size);have X1:=hid x1;have HB7:=hid hb7;have xf:=x1.frozen;have t0:=x1.cell 0;have t1:=x1.cell 1;have t2:=x1.cell 2;have t3:=x1.cell 3;have t4:=x1.cell 4;simp only [qTa, qTb, qTc] at t0 t1 t2 t3 t4;clear x1 hb7 hb6;go_wp2_with fail;refine bodyPost_ret (res_cell_tmp (P:=Tryz.prog) (fn:=Tryz.f79) rfl _ _ w.heap.size 72 _ (0, 0) _ rfl (X1.out.set5 _ _ _ _ _) Tryz.underlying72 rfl size72) rfl ?_;exact ⟨below_five HB7.out (Nat.le_refl _) _ _ _ _ _, .inl ⟨N.out, 2, by omega, rfl⟩⟩
     | true => have Y:=hid (YEX.out (by simp; omega));clear NOX YEX HBN;go_wp2_with fail;refine (HRT.out _).mono ?_;rintro e w6 ⟨rfl, hb6⟩;have x1:=Z5.out.keep hb6;have x2:=ZM.out.keep hb6;have hb7:=HB5.out.trans (hb6.mono HB5.out.size);have X1:=hid x1;have HB7:=hid hb7;have xf:=x1.frozen;have t0:=x1.cell 0;have t1:=x1.cell 1;have t2:=x1.cell 2;have t3:=x1.cell 3;have t4:=x1.cell 4;have m0:=x2.cell 0;have m1:=x2.cell 1;have m2:=x2.cell 2;have m3:=x2.cell 3;have m4:=x2.cell 4;simp only [qTa, qTb, qTc] at t0 t1 t2 t3 t4 m0 m1 m2 m3 m4;clear x1 x2 hb7 hb6;go_wp2_with fail;refine bodyPost_ret (res_cell_tmp (P:=Tryz.prog) (fn:=Tryz.f79) rfl _ _ w.heap.size 72 _ (0, 0) _ rfl (X1.out.set5 (.int .i64 ma) (.int .i64 mt) (.int .i64 mp) (.int .i64 v1) (.int .i64 mn)) Tryz.underlying72 rfl size72) rfl ?_;exact ⟨below_five HB7.out (Nat.le_refl _) _ _ _ _ _, .inr ⟨_, _, _, _, _, Y.out, rfl⟩⟩
 ·have N:=hid (no1 k1);have hk1 : (k != 1) = true:=by simpa using k1
  clear no1 no2 NO3 YES k1;go_upto_region 2 with (fail);rw [<- HW.out, <- HG.out];go_wp2_with fail;refine bodyPost_ret (res_cell_tmp (P:=Tryz.prog) (fn:=Tryz.f79) rfl _ _ w.heap.size 72 _ (0, 0) _ rfl (Z1.out.set5 _ _ _ _ _) Tryz.underlying72 rfl size72) rfl ?_;exact ⟨below_five HB2.out (by omega) _ _ _ _ _, .inl ⟨N.out, 20, by omega, rfl⟩⟩
def O4.cells (o : O4) : List Value:=[.int .i64 o.k, .int .i64 o.n, .int .i64 o.m, .int .i64 o.l]
def opCells (l : List O4) : List Value:=l.flatMap O4.cells
theorem opCells_snoc (l : List O4) (o : O4) : opCells (l ++ [o]) = opCells l ++ o.cells:=by simp [opCells]
theorem opCells_get (l : List O4) (i : Nat) (o : O4) (h : l[i]? = some o) :
  (opCells l)[i * 4]? = some (.int .i64 o.k) /\ (opCells l)[i * 4 + 1]? = some (.int .i64 o.n) /\ (opCells l)[i * 4 + 2]? = some (.int .i64 o.m) /\ (opCells l)[i * 4 + 3]? = some (.int .i64 o.l):=by
 induction l generalizing i with
 | nil => simp at h
 | cons y l ih =>
  cases i with
  | zero => simp at h; subst h; simp [opCells, O4.cells]
  | succ i =>
   simp at h;have:=ih i h;have e : (i + 1) * 4 = i * 4 + 1 + 1 + 1 + 1:=by omega
   rw [e]
   simpa [opCells, O4.cells] using this
def allF : Nat -> List Int -> Nat -> List O4 × Int
 | 0, _, _ => ([], 0)
 | f + 1, bs, j =>
  if bs.length <= j then ([], 0)
  else if (atN bs j).2 ≠ 0 then ([], (atN bs j).2)
  else if (allF f bs (j + (atN bs j).1.l.toNat)).2 ≠ 0 then ([], (allF f bs (j + (atN bs j).1.l.toNat)).2)
  else ((atN bs j).1 :: (allF f bs (j + (atN bs j).1.l.toNat)).1, 0)
def allM (bs : List Int) : List O4 × Int:=allF bs.length bs 0
def joinA (acc : List O4) (r : List O4 × Int) : List O4 × Int:=if r.2 ≠ 0 then ([], r.2) else (acc ++ r.1, 0)
theorem allF_done (f : Nat) (bs : List Int) (j : Nat) (h : bs.length <= j) : allF f bs j = ([], 0):=by
 cases f with
 | zero => rfl
 | succ f => rw [allF, if_pos h]
theorem joinA_err (acc : List O4) (f : Nat) (bs : List Int) (j : Nat) (h : j < bs.length) (he : (atN bs j).2 ≠ 0) : joinA acc (allF (f + 1) bs j) = ([], (atN bs j).2):=by rw [allF, if_neg (by omega), if_pos he, joinA, if_pos he]
theorem joinA_ok (acc : List O4) (f : Nat) (bs : List Int) (j : Nat) (h : j < bs.length) (he : (atN bs j).2 = 0) :
  joinA acc (allF (f + 1) bs j) = joinA (acc ++ [(atN bs j).1]) (allF f bs (j + (atN bs j).1.l.toNat)):=by
 rw [allF, if_neg (by omega), if_neg (by simp [he])];split
 ·rename_i h2; rw [joinA, if_pos h2, joinA, if_pos h2]
 ·rename_i h2; rw [joinA, if_neg (by simp), joinA, if_neg h2]; simp
def Owns (w : World) (B : Nat) (v : Value) (l : List O4) : Prop:=w.ownsRow B 139 4 v l.length (opCells l)
theorem Owns.keep {w w' : World} {B : Nat} {v : Value} {l : List O4} (h : Owns w B v l) (hb : Below w.heap.size w w') : Owns w' B v l :=
 World.ownsRow.kept h (only_of_below hb none) (by cases v.ownBlock <;> simp)
def AllPost (r : List O4 × Int) (w : World) (e : Ending) (w' : World) : Prop :=
 ∃ v, e = .returned (.tuple #[v, .int .i64 r.2]) /\ Owns w' w.heap.size v r.1 /\ Below w.heap.size w w' /\ (r.2 ≠ 0 -> v = .slice none 0 0)
theorem Tryz.info25c : (Tryz.prog.info? 139).map (fun i => (i.zero, i.size, i.bytes)) = some (some (.agg #[.int .i64 0, .int .i64 0, .int .i64 0, .int .i64 0]), 4, 32):=by kernel_rfl
theorem all_any (w : World) (A : Option Addr) (bs : List Int) (cap : Nat) (ht : Tabs w) (hcap : cap <= 9223372036854775807) (hlen : bs.length <= cap) (hbig : bs.length <= 4194304) (hB : Byts w A bs) :
  Calls Tryz.prog 110 #[.slice A bs.length cap] w (AllPost (allM bs) w):=by
 obtain ⟨i0, hi, hz0, hz1, hz2⟩:=info_parts Tryz.info25c;have hv : ∀ v ∈ bs, 0 <= v /\ v <= 255:=by intro v hv;obtain ⟨j, hj⟩:=List.getElem?_of_mem hv;obtain ⟨h1, h2, _⟩:=hB j v hj;exact ⟨h1, h2⟩
 obtain ⟨n, hn⟩ : ∃ n, n = bs.length:=⟨_, rfl⟩;obtain ⟨R, hR⟩ : ∃ R, R = allM bs:=⟨_, rfl⟩;have hR0 : Aside (R = joinA [] (allF n bs 0)):=by
  show _ = _
  rw [hR, hn, joinA];split
  ·rename_i h2
   have : (allM bs).1 = []:=by
    have key : ∀ f j, (allF f bs j).2 ≠ 0 -> (allF f bs j).1 = []:=by
     intro f j h;cases f with
     | zero => simp [allF] at h
     | succ f =>
      rw [allF] at h ⊢;split at h
      ·simp at h
      ·rename_i h1
       rw [if_neg h1];split at h
       ·rename_i h3; rw [if_pos h3]
       ·rename_i h3
        rw [if_neg h3];split at h
        ·rename_i h4; rw [if_pos h4]
        ·simp at h
    exact key _ _ h2
   rw [<- this]; rfl
  ·rename_i h2
   simp at h2;have : (allM bs).2 = 0:=h2;rw [List.nil_append, <- this]; rfl
 rw [<- hR];have HN:=hid hn;have HV:=hid hv;have HB:=hid hB;have HT:=hid ht;rw [<- hn] at hlen hbig;rw [<- hn];clear hn hR hv hB ht;go_enter Tryz.func110, Tryz.ntmps110;go_wp2;go_loopg [4, 5] n (fun g s4 s5 wr => ∃ (j : Nat) (acc : List O4), s5 = .int .i64 j /\ n <= j + g /\ j <= n /\ acc.length <= j /\ Owns wr w.heap.size s4 acc /\ Below w.heap.size w wr /\ Aside (R = joinA acc (allF g bs j)))
 case atStart => exact ⟨0, [], rfl, by omega, by omega, by simp, World.ownsRow_nil _ _ _ _, Below.refl _ _, hR0⟩
 case round =>
  obtain ⟨j, acc, rfl, hg, hj, hacc, hown, hb1, hr⟩:=hrel;have hsz1:=hb1.size;by_cases hjn : j < n
  ·obtain ⟨g, rfl⟩ : ∃ g, gk = g + 1:=⟨gk - 1, by omega⟩;have hjn' : (j : Int) < n:=by omega
   have hB1:=HB.out.below hb1;have hT1:=HT.out.keep hb1;have hatM : atM bs (j : Int) = atN bs j:=by rw [atM, if_neg (by omega), Int.toNat_natCast]
   obtain ⟨r, hrr⟩ : ∃ r, r = atN bs j:=⟨_, rfl⟩;have hat:=cat_any wr A bs cap j hT1 hcap (by have:=HN.out; omega) hB1;rw [hatM, <- hrr, <- HN.out] at hat;have HAT:=hid hat;have hjl : j < bs.length:=by have:=HN.out; omega
   have HR:=hid hrr;clear hat hatM hrr hB1 hT1 hR0;obtain ⟨o, err⟩:=r;by_cases he : err = 0
   ·subst he;have hl:=atN_len bs HV.out j (by rw [<- HR.out]);rw [<- HR.out] at hl;have hnext:=joinA_ok acc g bs j hjl (by rw [<- HR.out]);rw [<- HR.out] at hnext;have HNX : Aside (R = joinA (acc ++ [o]) (allF g bs (j + o.l.toNat))):=by show _ = _; rw [hr.out]; exact hnext
    simp only at hl;obtain ⟨q, hq⟩ : ∃ q : Nat, o.l = q:=⟨o.l.toNat, by omega⟩;have HQ:=hid hq;rw [hq] at hl;have hq1 : 1 <= q /\ q <= 3 /\ j + q <= n:=by have:=HN.out; omega
    clear hnext hq hl hjl hr;go_wp2_with fail;refine HAT.out.mono ?_;rintro e w2 ⟨rfl, hb2⟩;have hown2:=Owns.keep hown hb2;have hb2':=hb1.trans (hb2.mono hsz1);have hsz2:=hb2'.size;clear hown hb2 hb1 hsz1 HAT;simp only;rw [HQ.out];go_wp2_with (at_builtin; refine wpList_append_own _ rfl _ _ 135 rfl w.heap.size 139 i0 (.agg #[.int .i64 0, .int .i64 0, .int .i64 0, .int .i64 0]) 4 32 Tryz.underlying135 hi hz0 hz1 hz2 rfl (by decide) _ _ _ rfl ((hown2.alloc _).alloc _) ⟨w2.heap.size + 1, 0, none⟩ 1 1 [.int .i64 o.k, .int .i64 o.n, .int .i64 o.m, .int .i64 (q : Int)] rfl rfl ?c1 ?c2 ?c3 ?c4 ?c5 ?_)
    case c1 => exact (Blk.new2 w2 (.cells #[.int .i64 o.k, .int .i64 o.n, .int .i64 o.m, .int .i64 (q : Int)] 139) 139 #[.int .i64 o.k, .int .i64 o.n, .int .i64 o.m, .int .i64 (q : Int)]).row
    case c2 => intro u hu; simp at hu; rcases hu with rfl | rfl | rfl | rfl <;> rfl
    case c3 => unfold maxLen; omega
    case c4 => omega
    case c5 => simp; omega
    intro v' w3 hown' hgrow _;have hlt:=fun k hk => (hown2.lt k hk);have bo:=((Blk.new w2 139 #[.int .i64 o.k, .int .i64 o.n, .int .i64 o.m, .int .i64 (q : Int)]).alloc (.cells #[.int .i64 o.k, .int .i64 o.n, .int .i64 o.m, .int .i64 (q : Int)] 139)).grown hgrow (by
     intro e;have:=(hlt _ e.symm).2;omega)
    have hb3:=((hb2'.alloc (by omega) (.cells #[.int .i64 o.k, .int .i64 o.n, .int .i64 o.m, .int .i64 (q : Int)] 139)).alloc (by simp; omega) (.cells #[.int .i64 o.k, .int .i64 o.n, .int .i64 o.m, .int .i64 (q : Int)] 139)).grown hgrow (by simp; omega) (fun k hk => (hlt k hk).1);have c3:=bo.cell 3;simp at c3;have hown3 : Owns w3 w.heap.size v' (acc ++ [o]):=by
     have e1 : opCells (acc ++ [o]) = opCells acc ++ [.int .i64 o.k, .int .i64 o.n, .int .i64 o.m, .int .i64 (q : Int)]:=by rw [opCells_snoc, O4.cells, HQ.out]
     have e2 : (acc ++ [o]).length = acc.length + 1:=by simp
     unfold Owns;rw [e1, e2];exact hown'
    clear hown' hgrow hown2 hlt bo hb2' hi hz0 hz1 hz2;go_wp2;go_roundg g
    case measure => omega
    case rel => refine ⟨j + q, acc ++ [o], by go_num, by omega, by omega, by simp; omega, hown3, hb3, ?_⟩;have:=HNX.out;rw [HQ.out] at this;exact this
   ·have herr:=joinA_err acc g bs j hjl (by rw [<- HR.out]; exact he);rw [<- HR.out] at herr;have HE : Aside (R = ([], err)):=by show _ = _; rw [hr.out]; exact herr
    have he' : ((err : Int) == 0) = false:=by simpa using he
    clear hi hz0 hz1 hz2 hjl hr herr he;go_wp2_with fail;refine HAT.out.mono ?_;rintro e w2 ⟨rfl, hb2⟩;go_wp2;go_ret2;rw [HE.out];exact ⟨_, rfl, World.ownsRow_nil _ _ _ _, (hb1.trans (hb2.mono hsz1)).alloc (by have:=hb2.size; omega) _, fun _ => rfl⟩
  ·have hjn' : ¬ ((j : Int) < n):=by omega
   have hdone : allF gk bs j = ([], 0):=allF_done gk bs j (by have:=HN.out; omega);have HE : Aside (R = (acc, 0)):=by show _ = _; rw [hr.out, hdone, joinA, if_neg (by simp)]; simp
   clear hi hz0 hz1 hz2 hr hdone hR0;go_wp2;go_ret2;rw [HE.out];exact ⟨_, rfl, hown, hb1, fun h => absurd rfl h⟩
theorem rall_any (w : World) (A : Option Addr) (bs : List Int) (cap : Nat) (hcap : cap <= 9223372036854775807) (hlen : bs.length <= cap) (hbig : bs.length <= 4194304) (hB : Byts w A bs) :
  Calls Tryz.prog 58 #[.slice A bs.length cap] w (AllPost (allM bs) w):=by
 obtain ⟨i0, hi, hz0, hz1, hz2⟩:=info_parts Tryz.info25c;have hv : ∀ v ∈ bs, 0 <= v /\ v <= 255:=by intro v hv;obtain ⟨j, hj⟩:=List.getElem?_of_mem hv;obtain ⟨h1, h2, _⟩:=hB j v hj;exact ⟨h1, h2⟩
 obtain ⟨n, hn⟩ : ∃ n, n = bs.length:=⟨_, rfl⟩;obtain ⟨R, hR⟩ : ∃ R, R = allM bs:=⟨_, rfl⟩;have hR0 : Aside (R = joinA [] (allF n bs 0)):=by
  show _ = _
  rw [hR, hn, joinA];split
  ·rename_i h2
   have : (allM bs).1 = []:=by
    have key : ∀ f j, (allF f bs j).2 ≠ 0 -> (allF f bs j).1 = []:=by
     intro f j h;cases f with
     | zero => simp [allF] at h
     | succ f =>
      rw [allF] at h ⊢;split at h
      ·simp at h
      ·rename_i h1
       rw [if_neg h1];split at h
       ·rename_i h3; rw [if_pos h3]
       ·rename_i h3
        rw [if_neg h3];split at h
        ·rename_i h4; rw [if_pos h4]
        ·simp at h
    exact key _ _ h2
   rw [<- this]; rfl
  ·rename_i h2
   simp at h2;have : (allM bs).2 = 0:=h2;rw [List.nil_append, <- this]; rfl
 rw [<- hR];have HN:=hid hn;have HV:=hid hv;have HB:=hid hB;rw [<- hn] at hlen hbig;rw [<- hn];clear hn hR hv hB;go_enter Tryz.func58, Tryz.ntmps58;go_wp2;go_loopg [4, 5] n (fun g s4 s5 wr => ∃ (j : Nat) (acc : List O4), s5 = .int .i64 j /\ n <= j + g /\ j <= n /\ acc.length <= j /\ Owns wr w.heap.size s4 acc /\ Below w.heap.size w wr /\ Aside (R = joinA acc (allF g bs j)))
 case atStart => exact ⟨0, [], rfl, by omega, by omega, by simp, World.ownsRow_nil _ _ _ _, Below.refl _ _, hR0⟩
 case round =>
  obtain ⟨j, acc, rfl, hg, hj, hacc, hown, hb1, hr⟩:=hrel;have hsz1:=hb1.size;by_cases hjn : j < n
  ·obtain ⟨g, rfl⟩ : ∃ g, gk = g + 1:=⟨gk - 1, by omega⟩;have hjn' : (j : Int) < n:=by omega
   have hB1:=HB.out.below hb1;have hatM : atM bs (j : Int) = atN bs j:=by rw [atM, if_neg (by omega), Int.toNat_natCast]
   obtain ⟨r, hrr⟩ : ∃ r, r = atN bs j:=⟨_, rfl⟩;have hat:=rat_any wr A bs cap j hcap (by have:=HN.out; omega) hB1;rw [hatM, <- hrr, <- HN.out] at hat;have HAT:=hid hat;have hjl : j < bs.length:=by have:=HN.out; omega
   have HR:=hid hrr;clear hat hatM hrr hB1 hR0;obtain ⟨o, err⟩:=r;by_cases he : err = 0
   ·subst he;have hl:=atN_len bs HV.out j (by rw [<- HR.out]);rw [<- HR.out] at hl;have hnext:=joinA_ok acc g bs j hjl (by rw [<- HR.out]);rw [<- HR.out] at hnext;have HNX : Aside (R = joinA (acc ++ [o]) (allF g bs (j + o.l.toNat))):=by show _ = _; rw [hr.out]; exact hnext
    simp only at hl;obtain ⟨q, hq⟩ : ∃ q : Nat, o.l = q:=⟨o.l.toNat, by omega⟩;have HQ:=hid hq;rw [hq] at hl;have hq1 : 1 <= q /\ q <= 3 /\ j + q <= n:=by have:=HN.out; omega
    clear hnext hq hl hjl hr;go_wp2_with fail;refine HAT.out.mono ?_;rintro e w2 ⟨rfl, hb2⟩;have hown2:=Owns.keep hown hb2;have hb2':=hb1.trans (hb2.mono hsz1);have hsz2:=hb2'.size;clear hown hb2 hb1 hsz1 HAT;simp only;rw [HQ.out];go_wp2_with (at_builtin; refine wpList_append_own _ rfl _ _ 135 rfl w.heap.size 139 i0 (.agg #[.int .i64 0, .int .i64 0, .int .i64 0, .int .i64 0]) 4 32 Tryz.underlying135 hi hz0 hz1 hz2 rfl (by decide) _ _ _ rfl ((hown2.alloc _).alloc _) ⟨w2.heap.size + 1, 0, none⟩ 1 1 [.int .i64 o.k, .int .i64 o.n, .int .i64 o.m, .int .i64 (q : Int)] rfl rfl ?c1 ?c2 ?c3 ?c4 ?c5 ?_)
    case c1 => exact (Blk.new2 w2 (.cells #[.int .i64 o.k, .int .i64 o.n, .int .i64 o.m, .int .i64 (q : Int)] 139) 139 #[.int .i64 o.k, .int .i64 o.n, .int .i64 o.m, .int .i64 (q : Int)]).row
    case c2 => intro u hu; simp at hu; rcases hu with rfl | rfl | rfl | rfl <;> rfl
    case c3 => unfold maxLen; omega
    case c4 => omega
    case c5 => simp; omega
    intro v' w3 hown' hgrow _;have hlt:=fun k hk => (hown2.lt k hk);have bo:=((Blk.new w2 139 #[.int .i64 o.k, .int .i64 o.n, .int .i64 o.m, .int .i64 (q : Int)]).alloc (.cells #[.int .i64 o.k, .int .i64 o.n, .int .i64 o.m, .int .i64 (q : Int)] 139)).grown hgrow (by
     intro e;have:=(hlt _ e.symm).2;omega)
    have hb3:=((hb2'.alloc (by omega) (.cells #[.int .i64 o.k, .int .i64 o.n, .int .i64 o.m, .int .i64 (q : Int)] 139)).alloc (by simp; omega) (.cells #[.int .i64 o.k, .int .i64 o.n, .int .i64 o.m, .int .i64 (q : Int)] 139)).grown hgrow (by simp; omega) (fun k hk => (hlt k hk).1);have c3:=bo.cell 3;simp at c3;have hown3 : Owns w3 w.heap.size v' (acc ++ [o]):=by
     have e1 : opCells (acc ++ [o]) = opCells acc ++ [.int .i64 o.k, .int .i64 o.n, .int .i64 o.m, .int .i64 (q : Int)]:=by rw [opCells_snoc, O4.cells, HQ.out]
     have e2 : (acc ++ [o]).length = acc.length + 1:=by simp
     unfold Owns;rw [e1, e2];exact hown'
    clear hown' hgrow hown2 hlt bo hb2' hi hz0 hz1 hz2;go_wp2;go_roundg g
    case measure => omega
    case rel => refine ⟨j + q, acc ++ [o], by go_num, by omega, by omega, by simp; omega, hown3, hb3, ?_⟩;have:=HNX.out;rw [HQ.out] at this;exact this
   ·have herr:=joinA_err acc g bs j hjl (by rw [<- HR.out]; exact he);rw [<- HR.out] at herr;have HE : Aside (R = ([], err)):=by show _ = _; rw [hr.out]; exact herr
    have he' : ((err : Int) == 0) = false:=by simpa using he
    clear hi hz0 hz1 hz2 hjl hr herr he;go_wp2_with fail;refine HAT.out.mono ?_;rintro e w2 ⟨rfl, hb2⟩;go_wp2;go_ret2;rw [HE.out];exact ⟨_, rfl, World.ownsRow_nil _ _ _ _, (hb1.trans (hb2.mono hsz1)).alloc (by have:=hb2.size; omega) _, fun _ => rfl⟩
  ·have hjn' : ¬ ((j : Int) < n):=by omega
   have hdone : allF gk bs j = ([], 0):=allF_done gk bs j (by have:=HN.out; omega);have HE : Aside (R = (acc, 0)):=by show _ = _; rw [hr.out, hdone, joinA, if_neg (by simp)]; simp
   clear hi hz0 hz1 hz2 hr hdone hR0;go_wp2;go_ret2;rw [HE.out];exact ⟨_, rfl, hown, hb1, fun h => absurd rfl h⟩
theorem same_bytes (w : World) (A A' : Option Addr) (bs : List Int) (cap cap' : Nat) (hB : Byts w A bs) (hB' : Byts w A' bs) :
  Calls Tryz.prog 72 #[.slice A bs.length cap, .slice A' bs.length cap'] w fun e w' => e = .returned (.bool true) /\ w = w':=by
 have c1:=conv_bytes w A bs cap hB;have c2:=conv_bytes w A' bs cap' hB';obtain ⟨s, hs⟩ : ∃ s : ByteArray, s = ⟨(u8s bs).toArray⟩:=⟨_, rfl⟩;obtain ⟨n, hn⟩ : ∃ n, n = bs.length:=⟨_, rfl⟩;rw [<- hs, <- hn] at c1 c2;rw [<- hn];clear hs hn;go_enter Tryz.func72, Tryz.ntmps72;go_wp2;go_ret;exact ⟨by simp, rfl⟩
def OpsR (w : World) (A : Option Addr) (l : List O4) : Prop :=
 ∀ j o, l[j]? = some o -> ∃ b off, A = some ⟨b, off, none⟩ /\ b < w.heap.size /\ w.cell? ⟨b, off + j * 4, none⟩ = some (.int .i64 o.k) /\ w.cell? ⟨b, off + j * 4 + 1, none⟩ = some (.int .i64 o.n) /\
  w.cell? ⟨b, off + j * 4 + 2, none⟩ = some (.int .i64 o.m) /\ w.cell? ⟨b, off + j * 4 + 3, none⟩ = some (.int .i64 o.l)
theorem OpsR.below {w w' : World} {A : Option Addr} {l : List O4} (h : OpsR w A l) (hb : Below w.heap.size w w') : OpsR w' A l:=by intro j o ho;obtain ⟨b, off, hA, hl, h0, h1, h2, h3⟩:=h j o ho;exact ⟨b, off, hA, Nat.lt_of_lt_of_le hl hb.size, (hb.cell (p:=⟨b, off + j * 4, none⟩) hl).trans h0, (hb.cell (p:=⟨b, off + j * 4 + 1, none⟩) hl).trans h1, (hb.cell (p:=⟨b, off + j * 4 + 2, none⟩) hl).trans h2, (hb.cell (p:=⟨b, off + j * 4 + 3, none⟩) hl).trans h3⟩
theorem Owns.reads {w : World} {B : Nat} {v : Value} {l : List O4} (h : Owns w B v l) : ∃ A cap, v = .slice A l.length cap /\ l.length <= cap /\ cap <= 9223372036854775807 /\ OpsR w A l:=by
 rcases h.2 with ⟨rfl, h0⟩ | ⟨g, cap, cur, rfl, hg, hh, h1, h2, h3, h4⟩
 ·have : l = []:=eq_nil_of_length_eq_zero h0;subst this;exact ⟨none, 0, rfl, by simp, by omega, fun j o ho => by simp at ho⟩
 ·unfold maxLen at h2;refine ⟨_, cap, rfl, h1, h2, fun j o ho => ?_⟩;have hj:=(List.getElem?_eq_some_iff.1 ho).1;obtain ⟨c0, c1, c2, c3⟩:=opCells_get l j o ho;have key : ∀ i, i < l.length * 4 -> w.cell? ⟨g, i, none⟩ = (opCells l)[i]?:=by intro i hi;rw [cell_of_row w g i cur 139 (0, 0) hh, <- h4, List.getElem?_take, if_pos hi];simp
  have hlt : g < w.heap.size:=(Array.getElem?_eq_some_iff.1 hh).1;exact ⟨g, 0, rfl, hlt, by rw [key _ (by omega)]; simpa using c0, by rw [key _ (by omega)]; simpa using c1, by rw [key _ (by omega)]; simpa using c2, by rw [key _ (by omega)]; simpa using c3⟩
theorem oneM_n (c : Int) (h : 0 <= c /\ c <= 255) : -2000 <= (oneM c).1.n /\ (oneM c).1.n <= 2000:=by
 have key : ∀ n : Nat, n < 256 -> -2000 <= (oneM n).1.n /\ (oneM n).1.n <= 2000:=by decide +kernel
 have:=key c.toNat (by omega)
 rwa [show ((c.toNat : Nat) : Int) = c from by omega] at this
theorem moreM_n (c n m : Int) (hc : longC c) (hn : 0 <= n /\ n <= 255) (hm : 0 <= m /\ m <= 255) : -2000 <= (moreM c n m).n /\ (moreM c n m).n <= 2000:=by
 unfold longC at hc;unfold moreM
 repeat' split
 all_goals (simp only; omega)
theorem getD_val (bs : List Int) (hb : ∀ v ∈ bs, 0 <= v /\ v <= 255) (i : Nat) : 0 <= bs.getD i 0 /\ bs.getD i 0 <= 255:=by
 rw [getD_eq_getElem?_getD];cases h : bs[i]? with
 | none => simp
 | some v => exact hb v (mem_of_getElem? h)
theorem atN_n (bs : List Int) (hb : ∀ v ∈ bs, 0 <= v /\ v <= 255) (i : Nat) : -2000 <= (atN bs i).1.n /\ (atN bs i).1.n <= 2000:=by
 unfold atN;by_cases h1 : bs.length <= i
 ·rw [if_pos h1]; simp
 rw [if_neg h1];by_cases h2 : (oneM (bs.getD i 0)).2 = true
 ·rw [if_pos h2]; exact oneM_n _ (getD_val bs hb i)
 rw [if_neg h2];by_cases h3 : bs.length < i + 2 \/ ((bs.getD i 0 = 132 \/ bs.getD i 0 = 134) /\ bs.length < i + 3)
 ·rw [if_pos h3]; simp
 rw [if_neg h3];exact moreM_n _ _ _ ((oneM_long _ (getD_val bs hb i)).1 (by simpa using h2)) (getD_val bs hb _) (getD_val bs hb _)
def lens (l : List O4) : Nat:=(l.map fun o => o.l.toNat).sum
def fine (o : O4) : Prop:=1 <= o.l /\ o.l <= 3 /\ -2000 <= o.n /\ o.n <= 2000
theorem allF_facts (bs : List Int) (hb : ∀ v ∈ bs, 0 <= v /\ v <= 255) : ∀ (f j : Nat), (allF f bs j).2 = 0 -> bs.length <= j + f -> j <= bs.length ->
  (∀ o ∈ (allF f bs j).1, fine o) /\ lens (allF f bs j).1 + j = bs.length:=by
 intro f
 induction f with
 | zero => intro j _ h1 h2; exact ⟨by simp [allF], by simp [allF, lens]; omega⟩
 | succ f ih =>
  intro j he h1 h2;by_cases hj : bs.length <= j
  ·rw [allF, if_pos hj]; exact ⟨by simp, by simp [lens]; omega⟩
  ·rw [allF, if_neg hj] at he ⊢;by_cases h3 : (atN bs j).2 ≠ 0
   ·rw [if_pos h3] at he; exact absurd he h3
   ·rw [if_neg h3] at he ⊢;have hl:=atN_len bs hb j (by simpa using h3);by_cases h4 : (allF f bs (j + (atN bs j).1.l.toNat)).2 ≠ 0
    ·rw [if_pos h4] at he; exact absurd he h4
    ·rw [if_neg h4];have:=ih (j + (atN bs j).1.l.toNat) (by simpa using h4) (by omega) (by omega);have hn:=atN_n bs hb j;refine ⟨?_, ?_⟩
     ·intro o ho;rcases List.mem_cons.1 ho with rfl | ho
      ·exact ⟨hl.1, hl.2.1, hn.1, hn.2⟩
      ·exact this.1 o ho
     ·have h5:=this.2;simp only [lens, List.map_cons, List.sum_cons] at *;omega
theorem allM_facts (bs : List Int) (hb : ∀ v ∈ bs, 0 <= v /\ v <= 255) (he : (allM bs).2 = 0) : (∀ o ∈ (allM bs).1, fine o) /\ lens (allM bs).1 = bs.length:=by have:=allF_facts bs hb bs.length 0 he (by omega) (by omega);exact ⟨this.1, by have:=this.2; unfold allM; omega⟩
theorem allF_err (bs : List Int) : ∀ (f j : Nat), (allF f bs j).2 ≠ 0 -> (allF f bs j).1 = []:=by
 intro f j h;cases f with
 | zero => simp [allF] at h
 | succ f =>
  rw [allF] at h ⊢;split at h
  ·simp at h
  ·rename_i h1
   rw [if_neg h1];split at h
   ·rename_i h3; rw [if_pos h3]
   ·rename_i h3
    rw [if_neg h3];split at h
    ·rename_i h4; rw [if_pos h4]
    ·simp at h
def posN (l : List O4) (i : Nat) : Nat:=lens (l.take i)
theorem posN_next (l : List O4) (i : Nat) (o : O4) (h : l[i]? = some o) : posN l (i + 1) = posN l i + o.l.toNat:=by have hi:=(List.getElem?_eq_some_iff.1 h).1;rw [posN, List.take_succ_eq_append_getElem hi, posN];rw [getElem?_eq_getElem hi] at h;injection h with h;simp [lens, h]
theorem lens_append (a b : List O4) : lens (a ++ b) = lens a + lens b:=by simp [lens]
theorem posN_le (l : List O4) (i : Nat) : posN l i <= lens l:=by have h : lens l = lens (l.take i ++ l.drop i):=congrArg lens (List.take_append_drop i l).symm;rw [lens_append] at h;rw [posN]; omega
theorem posN_all (l : List O4) (i : Nat) (h : l.length <= i) : posN l i = lens l:=by rw [posN, take_of_length_le h]
def begN (l : List O4) (j x : Nat) : Bool:=(List.range j).any fun i => posN l i == x
theorem begN_next (l : List O4) (j x : Nat) : begN l (j + 1) x = (begN l j x || posN l j == x):=by simp [begN, List.range_succ]
def okAt (l : List O4) (len i : Nat) (o : O4) : Bool :=
 !(o.k == 0) && (!(o.k == 22 || (o.k == 23 || o.k == 24)) ||
  (decide (0 <= (posN l (i + 1) : Int) + o.n) && (decide ((posN l (i + 1) : Int) + o.n <= len) && (begN l l.length ((posN l (i + 1) : Int) + o.n).toNat || ((posN l (i + 1) : Int) + o.n).toNat == len))))
def okFrom (l : List O4) (len : Nat) : Nat -> Bool
 | 0 => true
 | g + 1 => match l[l.length - (g + 1)]? with
  | none => true
  | some o => okAt l len (l.length - (g + 1)) o && okFrom l len g
def jumpsM (bs : List Int) : Bool:=(allM bs).2 == 0 && okFrom (allM bs).1 bs.length (allM bs).1.length
theorem run_make_rowN {P : Program} (t e : TypeId) (i : TypeInfo) (z : Value) (ht : P.underlying t = some (.slice e)) (hi : P.info? e = some i) (hz : i.zero = some z)
  (kl kc : IntKind) (n c : Nat) (hnc : n <= c) (hbytes : i.bytes * c <= 281474976710656) (h63 : c <= 9223372036854775807) (w : World) :
  (Instr.makeSlice t (.int kl (n : Int)) (.int kc (c : Int))).run P w = .ok (.slice (some ⟨w.heap.size, 0, none⟩) n c) (w.alloc (.cells (madeCells z.cells (c * i.size)) e)):=by
 have hb : (i.bytes : Int) * (c : Int) <= 281474976710656:=by
  have h : ((i.bytes * c : Nat) : Int) <= 281474976710656:=by omega
  rwa [Int.natCast_mul] at h
 have hr:=run_make (P:=P) w t e i z ht hi hz kl kc n c (by omega) (by omega) hb (by omega);simp only [Int.toNat_natCast] at hr;exact hr
theorem Tryz.info4 : (Tryz.prog.info? 4).map (fun i => (i.zero, i.size, i.bytes)) = some (some (.bool false), 1, 1):=by kernel_rfl
def boolsF (n : Nat) (f : Nat -> Bool) : Array Value:=((List.range n).map fun x => Value.bool (f x)).toArray
theorem boolsF_get (n : Nat) (f : Nat -> Bool) (j : Nat) (h : j < n) : (boolsF n f)[j]? = some (.bool (f j)):=by simp [boolsF, h]
theorem boolsF_set (n : Nat) (f : Nat -> Bool) (j : Nat) : (boolsF n f).setIfInBounds j (.bool true) = boolsF n fun x => f x || j == x:=by
 apply Array.ext
 ·simp [boolsF]
 ·intro i h1 h2;rw [Array.getElem_setIfInBounds]
  ·by_cases e : j = i
   ·subst e; simp [boolsF]
   ·rw [if_neg e];have : (j == i) = false:=by simpa using e
    simp [boolsF, this]
  ·simpa [boolsF] using h2
theorem made_boolsF (n : Nat) : madeCells (Value.cells (.bool false)) (n * 1) = boolsF n fun _ => false:=by
 apply Array.ext
 ·simp [madeCells, boolsF]
 ·intro i h1 h2;have : i % 1 = 0:=by omega
  simp [madeCells, boolsF, Value.cells, this]
theorem boolsF_congr (n : Nat) (f f' : Nat -> Bool) (h : ∀ x, f x = f' x) : boolsF n f = boolsF n f':=by rw [show f = f' from funext h]
theorem length_le_lens (l : List O4) (h : ∀ o ∈ l, fine o) : l.length <= lens l:=by
 induction l with
 | nil => simp
 | cons o l ih =>
  have h1:=h o (by simp);have h2:=ih (fun x hx => h x (by simp [hx]));have h3 : 1 <= o.l.toNat:=by have:=h1.1; omega
  simp only [lens, List.map_cons, List.sum_cons, List.length_cons] at *;omega
theorem jumps_any (w : World) (A : Option Addr) (bs : List Int) (cap : Nat) (ht : Tabs w) (hcap : cap <= 9223372036854775807) (hlen : bs.length <= cap) (hbig : bs.length <= 4194304) (hB : Byts w A bs) :
  Calls Tryz.prog 80 #[.slice A bs.length cap] w fun e w' => e = .returned (.bool (jumpsM bs)) /\ Below w.heap.size w w':=by
 obtain ⟨i0, hi, hz0, hz1, hz2⟩:=info_parts Tryz.info4;have hv : ∀ v ∈ bs, 0 <= v /\ v <= 255:=by intro v hv;obtain ⟨j, hj⟩:=List.getElem?_of_mem hv;obtain ⟨h1, h2, _⟩:=hB j v hj;exact ⟨h1, h2⟩
 have hall:=all_any w A bs cap ht hcap hlen hbig hB;obtain ⟨n, hn⟩ : ∃ n, n = bs.length:=⟨_, rfl⟩;have hmk:=fun W => run_make_rowN (P:=Tryz.prog) 228 4 i0 _ Tryz.underlying228 hi hz0 .i64 .i64 (n + 1) (n + 1) (Nat.le_refl _) (by rw [hz2]; omega) (by omega) W;rw [hz1, made_boolsF] at hmk;have hfacts:=allM_facts bs hv;have herr:=allF_err bs bs.length 0;obtain ⟨r, hr⟩ : ∃ r, r = allM bs:=⟨_, rfl⟩;have hJ : jumpsM bs = (r.2 == 0 && okFrom r.1 n r.1.length):=by rw [hr, hn]; rfl
 change (allM bs).2 ≠ 0 -> (allM bs).1 = [] at herr;rw [<- hr] at hall hfacts herr;rw [<- hn] at hall hfacts hbig hlen;rw [hJ, <- hn];obtain ⟨J, hJJ⟩ : ∃ J, J = (r.2 == 0 && okFrom r.1 n r.1.length):=⟨_, rfl⟩;rw [<- hJJ];obtain ⟨l, err⟩:=r;simp only at hfacts herr hJJ;have HALL:=hid hall;have HF:=hid hfacts;have HE:=hid herr;have HJ:=hid hJJ;clear hall hfacts herr hJJ hJ hr hn hv hB ht hi hz0 hz1 hz2;have ec : ((n + 1 : Nat) : Int) = (n : Int) + 1:=by omega
 rw [ec] at hmk;clear ec;go_enter Tryz.func80, Tryz.ntmps80;have HMK:=hid hmk;clear hmk;go_wp2_with fail;go_step3
 go_wp2_with fail;refine HALL.out.mono ?_;rintro e w1 ⟨v, rfl, hown, hb1, _⟩;obtain ⟨A1, cap1, rfl, hlc, hc1, hops⟩:=hown.reads;clear hown HALL;have hsz1:=hb1.size;simp only at hops hlc ⊢;have hmk:=HMK.out;have t1:=Blk.new w1 4 (boolsF (n + 1) fun _ => false);have hb2:=(Below.refl w1.heap.size w1).alloc (Nat.le_refl _) (.cells (boolsF (n + 1) fun _ => false) 4);obtain ⟨k, hk⟩ : ∃ k, k = l.length:=⟨_, rfl⟩;have HK:=hid hk;have HO:=hid hops;rw [<- hk] at hlc ⊢;clear hops hk;go_wp2_with fail;clear hmk HMK;generalize w1.alloc (.cells (boolsF (n + 1) fun _ => false) 4) = w2 at t1 hb2 ⊢;have HB1:=hid hb1;have hkl : k <= 4194304:=by
  by_cases he : err = 0
  ·obtain ⟨hf1, hf2⟩:=HF.out he;have:=length_le_lens l hf1;have:=HK.out;omega
  ·have:=HE.out he;have:=HK.out;simp_all
 clear hb1;go_loopg [6, 24] k (fun g s6 s24 wr => ∃ j : Nat, j + g = k /\ s24 = .int .i64 j /\ s6 = .int .i64 (posN l j) /\ Blk wr w1.heap.size 4 (boolsF (n + 1) (begN l j)) /\ Below w1.heap.size w1 wr)
 case atStart => exact ⟨0, by omega, rfl, rfl, by rw [boolsF_congr (n + 1) (begN l 0) (fun _ => false) (fun _ => rfl)]; exact t1, hb2⟩
 case round =>
  clear t1 hb2;obtain ⟨j, hj, rfl, rfl, t1, hb2⟩:=hrel;have hsz2:=hb2.size;cases gk with
  | zero =>
   obtain rfl : j = k:=by omega
   have hjk : ¬ ((j : Int) < j):=by omega
   have hct:=(t1.cell n).trans (boolsF_get (n + 1) (begN l j) n (by omega));have hft:=t1.frozen n;have t2:=(t1.set_ n (.bool true));rw [boolsF_set] at t2;have hb3:=hb2.setCell (p:=⟨w1.heap.size, n, none⟩) (Nat.le_refl _) (.bool true);obtain ⟨b0, hb0⟩ : ∃ b0, b0 = (err == 0):=⟨_, rfl⟩;have HB0:=hid hb0;have hb0' : (err == 0) = b0:=hb0.symm;clear hb0 hj;have hpn : posN l j = lens l:=posN_all l j (by have:=HK.out; omega);go_wp2_with fail;go_step3
   go_wp2_with fail;generalize wr.setCell ⟨w1.heap.size, n, none⟩ (.bool true) = w3 at t2 hb3 ⊢;clear t1 hb2 hct hft hjk hpn;go_loopg [6, 9, 44] j (fun g s6 s9 s44 wr => ∃ i : Nat, i + g = j /\ s44 = .int .i64 i /\ s6 = .int .i64 (posN l i) /\ s9 = .bool b0 /\ Blk wr w1.heap.size 4 (boolsF (n + 1) fun x => begN l j x || n == x) /\ Below w1.heap.size w1 wr /\ Aside (J = (b0 && okFrom l n g)))
   case atStart => exact ⟨0, by omega, rfl, rfl, rfl, t2, hb3, by show _ = _; rw [HJ.out, HB0.out, HK.out]⟩
   case round =>
    clear t2 hb3;obtain ⟨i, hi, rfl, rfl, rfl, t3, hb4, hJ⟩:=hrel;have hsz4:=hb4.size;cases gk with
    | zero =>
     have hin : ¬ ((i : Int) < j):=by omega
     have hJ1 : Aside (J = b0):=by show _ = _; rw [hJ.out, okFrom, Bool.and_true]
     clear hJ;go_wp2;go_ret;rw [hJ1.out];exact ⟨rfl, (HB1.out).trans (hb4.mono hsz1)⟩
    | succ g =>
     have hij : (i : Int) < j:=by omega
     have hil : i < l.length:=by have:=HK.out; omega
     obtain ⟨o, ho⟩ : ∃ o, l[i]? = some o:=⟨_, getElem?_eq_getElem hil⟩;have herr : err = 0:=by
      rcases Int.lt_trichotomy err 0 with h | h | h
      ·have:=HE.out (by omega); simp_all
      ·exact h
      ·have:=HE.out (by omega); simp_all
     have hb0t : b0 = true:=by rw [HB0.out, herr]; rfl
     subst hb0t;obtain ⟨hf1, hf2⟩:=HF.out herr;obtain ⟨hl1, hl2, hn1, hn2⟩:=hf1 o (mem_of_getElem? ho);have hp:=posN_next l i o ho;have hple2:=posN_le l (i + 1);obtain ⟨q, hq⟩ : ∃ q : Nat, o.l = q:=⟨o.l.toNat, by omega⟩;have hp' : posN l (i + 1) = posN l i + q:=by rw [hp, hq]; rfl
     have hpn2 : posN l i + q <= n:=by omega
     have HP:=hid hp';have hJ1:=hJ.out;have hidx : l.length - (g + 1) = i:=by have:=HK.out; omega
     rw [okFrom, hidx, ho, Bool.true_and] at hJ1;have HJ1 : Aside (J = (okAt l n i o && okFrom l n g)):=hJ1;obtain ⟨b, off, rfl, hbl, c0, c1, c2, c3⟩:=(HO.out.below hb4) i o ho;rw [hq] at c3;have t4:=t3.alloc (.cells #[.int .i64 o.k, .int .i64 o.n, .int .i64 o.m, .int .i64 (q : Int)] 139);have hb5:=hb4.alloc hsz4 (.cells #[.int .i64 o.k, .int .i64 o.n, .int .i64 o.m, .int .i64 (q : Int)] 139);clear hJ hJ1 hidx hp hp' hq ho hil hf1 hf2 hple2 hl1 hl2 t3 hb4;have hcs : (o.k == 0) = true \/ ((o.k == 0) = false /\ (o.k == 22) = false /\ (o.k == 23) = false /\ (o.k == 24) = false) \/ ((o.k == 0) = false /\ ((o.k == 22) = true \/ ((o.k == 22) = false /\ ((o.k == 23) = true \/ ((o.k == 23) = false /\ (o.k == 24) = true))))):=by cases o.k == 0 <;> cases o.k == 22 <;> cases o.k == 23 <;> cases o.k == 24 <;> simp
     rcases hcs with h1 | ⟨h1, h2, h3, h4⟩ | ⟨h1, h2⟩
     ·have hok : okAt l n i o = false:=by rw [okAt, h1]; rfl
      have HOK : Aside (J = false):=by show _ = _; rw [HJ1.out, hok]; rfl
      clear hok HJ1;go_wp2
      try rw [Exit.noGoto_ret]
      go_ret;rw [HOK.out];exact ⟨rfl, (HB1.out).trans (hb5.mono hsz1)⟩
     ·have hok : okAt l n i o = true:=by rw [okAt, h1, h2, h3, h4]; rfl
      have HOK : Aside (J = (true && okFrom l n g)):=by show _ = _; rw [HJ1.out, hok]
      clear hok HJ1;go_wp2;go_roundg g
      case measure => omega
      case rel => exact ⟨i + 1, by omega, by go_num, by rw [HP.out]; go_num, rfl, t4, hb5, HOK⟩
     ·obtain ⟨T, hT⟩ : ∃ T : Int, T = (posN l i : Int) + (q : Int) + o.n:=⟨_, rfl⟩;have hk3 : (o.k == 22 || (o.k == 23 || o.k == 24)) = true:=by rcases h2 with h2 | ⟨_, h2 | ⟨_, h2⟩⟩ <;> rw [h2] <;> simp
      have hpI : ((posN l (i + 1) : Nat) : Int) + o.n = T:=by rw [HP.out, hT]; omega
      have hok : okAt l n i o = (decide (0 <= T) && (decide (T <= n) && (begN l l.length T.toNat || T.toNat == n))):=by rw [okAt, h1, hk3, hpI]; rfl
      have HOK:=hid hok;have hbnd : -9223372036854775808 <= (posN l i : Int) + (q : Int) + o.n /\ (posN l i : Int) + (q : Int) + o.n <= 9223372036854775807:=by omega
      clear hok hk3 hpI;by_cases hT0 : T < 0
      ·have hT1 : (posN l i : Int) + (q : Int) + o.n < 0:=by omega
       have HF1 : Aside (J = false):=by show _ = _; rw [HJ1.out, HOK.out, decide_eq_false (by omega)]; rfl
       clear HJ1 HOK hT hT0 h1;rcases h2 with h2 | ⟨h3, h2 | ⟨h4, h2⟩⟩
       all_goals
        go_wp2
        try rw [Exit.noGoto_ret]
        go_ret;rw [HF1.out];exact ⟨rfl, (HB1.out).trans (hb5.mono hsz1)⟩
      ·by_cases hTn : (n : Int) < T
       ·have hT1 : (n : Int) < (posN l i : Int) + (q : Int) + o.n:=by omega
        have hT2 : 0 <= (posN l i : Int) + (q : Int) + o.n:=by omega
        have HF1 : Aside (J = false):=by show _ = _; rw [HJ1.out, HOK.out, decide_eq_false (p:=T <= n) (by omega)]; simp
        clear HJ1 HOK hT hT0 h1 hTn;rcases h2 with h2 | ⟨h3, h2 | ⟨h4, h2⟩⟩
        all_goals
         go_wp2
         try rw [Exit.noGoto_ret]
         go_ret;rw [HF1.out];exact ⟨rfl, (HB1.out).trans (hb5.mono hsz1)⟩
       ·have hT1 : (posN l i : Int) + (q : Int) + o.n <= (n : Int):=by omega
        have hT2 : 0 <= (posN l i : Int) + (q : Int) + o.n:=by omega
        obtain ⟨bb, hbb⟩ : ∃ bb, bb = (begN l j T.toNat || n == T.toNat):=⟨_, rfl⟩;have hcell:=(t4.cell ((posN l i : Int) + (q : Int) + o.n).toNat).trans (boolsF_get (n + 1) (fun x => begN l j x || n == x) ((posN l i : Int) + (q : Int) + o.n).toNat (by omega));rw [<- hT] at hcell;simp only [<- hbb] at hcell;rw [hT] at hcell;have hbb2 : okAt l n i o = bb:=by
         rw [HOK.out, hbb, <- HK.out, decide_eq_true (p:=0 <= T) (by omega), decide_eq_true (p:=T <= n) (by omega)];have : (T.toNat == n) = (n == T.toNat):=by rw [Bool.eq_iff_iff]; simp; omega
         rw [this]; simp
        have HF1 : Aside (J = (bb && okFrom l n g)):=by show _ = _; rw [HJ1.out, hbb2]
        clear HJ1 HOK hT hT0 h1 hTn hbb hbb2;cases bb
        ·rcases h2 with h2 | ⟨h3, h2 | ⟨h4, h2⟩⟩
         all_goals
          go_wp2
          try rw [Exit.noGoto_ret]
          go_ret;rw [HF1.out];exact ⟨by simp, (HB1.out).trans (hb5.mono hsz1)⟩
        ·rcases h2 with h2 | ⟨h3, h2 | ⟨h4, h2⟩⟩
         all_goals
          go_wp2;go_roundg g
          case measure => omega
          case rel => exact ⟨i + 1, by omega, by go_num, by rw [HP.out]; go_num, rfl, t4, hb5, HF1⟩
  | succ g =>
   have hjk : (j : Int) < k:=by omega
   have hjl : j < l.length:=by have:=HK.out; omega
   obtain ⟨o, ho⟩ : ∃ o, l[j]? = some o:=⟨_, getElem?_eq_getElem hjl⟩;have herr : err = 0:=by
    rcases Int.lt_trichotomy err 0 with h | h | h
    ·have:=HE.out (by omega); simp_all
    ·exact h
    ·have:=HE.out (by omega); simp_all
   obtain ⟨hf1, hf2⟩:=HF.out herr;obtain ⟨hl1, hl2, _, _⟩:=hf1 o (mem_of_getElem? ho);have hp:=posN_next l j o ho;have hple:=posN_le l j;have hple2:=posN_le l (j + 1);obtain ⟨q, hq⟩ : ∃ q : Nat, o.l = q:=⟨o.l.toNat, by omega⟩;have hp' : posN l (j + 1) = posN l j + q:=by rw [hp, hq]; rfl
   have hpn : posN l j < n + 1:=by omega
   have hpn2 : posN l j + q <= n:=by omega
   have HP:=hid hp';obtain ⟨b, off, rfl, hbl, c0, c1, c2, c3⟩:=(HO.out.below hb2) j o ho;rw [hq] at c3;have hct:=fun o1 => ((t1.alloc o1).cell (posN l j)).trans (boolsF_get (n + 1) (begN l j) (posN l j) hpn);have hft:=fun o1 => (t1.alloc o1).frozen (posN l j);have t3:=((t1.set_ (posN l j) (.bool true)).alloc (.cells #[.int .i64 o.k, .int .i64 o.n, .int .i64 o.m, .int .i64 (q : Int)] 139));rw [boolsF_set, boolsF_congr (n + 1) (fun x => begN l j x || posN l j == x) (begN l (j + 1)) (fun x => (begN_next l j x).symm)] at t3;have hb3:=(hb2.setCell (p:=⟨w1.heap.size, posN l j, none⟩) (Nat.le_refl _) (.bool true)).alloc (by simp [World.setCell]; omega) (.cells #[.int .i64 o.k, .int .i64 o.n, .int .i64 o.m, .int .i64 (q : Int)] 139);have hlt1:=t1.lt;have bo:=(Blk.new wr 139 #[.int .i64 o.k, .int .i64 o.n, .int .i64 o.m, .int .i64 (q : Int)]).far (p:=⟨w1.heap.size, posN l j, none⟩) (by simp; omega) (.bool true);have d3:=bo.cell 3;simp at d3;clear hp hp' hq ho hjl hf1 hf2 herr hple hple2 hl1 hl2 bo;go_wp2;go_roundg g
   case measure => omega
   case rel => exact ⟨j + 1, by omega, by go_num, by rw [HP.out]; go_num, t3, hb3⟩
theorem namM_no {r : Int} (h : (namM r).2 = false) : (namM r).1 = 0:=by
 unfold namM at h ⊢;split
 ·rfl
 ·rename_i h'
  rw [if_neg h'] at h;cases h
theorem coded_any (P : FlP) (V : List Ob) (i : Nat) (o : Ob) (w : World) (h : FlatAt w P V) (hv : V[i]? = some o) (ht : Tabs w) :
  Calls Tryz.prog 48 #[.iface 40 (.pointer (some ⟨P.f, 0, none⟩)), .int .i64 (2 * ((i : Int) + 1))] w fun e w' => e = .returned (.bool (codedM jumpsM V o)) /\ Below w.heap.size w w':=by
 have hrd:=read_any P V i o w h hv;unfold ReadR methV at hrd;have hno:=fun W (hb : Below w.heap.size w W) c (hc : getO V c = none) => fobj_no P V c W (h.below hb) ((getO_none hc).imp (fun e => by rw [namM_no e]; omega) id);have hyes:=fun W (hb : Below w.heap.size w W) c z (hc : getO V c = some z) => (by
  obtain ⟨j, h1, h2⟩:=getO_namM hc;obtain ⟨h3, h4, h5, h6⟩:=namM_ok (by rw [h1]);rw [h1] at h3;have e : c = 2 * ((j : Int) + 1):=by simp only at h3; omega
  rw [e];exact fobj_yes P V j z W (h.below hb) h2 : Calls Tryz.prog 234 #[.pointer (some ⟨P.f, 0, none⟩), .int .i64 c] W fun e w' => ∃ y, e = .returned (.tuple #[y, .int .i64 0]) /\ FreshO z W y w' /\ Below W.heap.size W w')
 have hpar:=fun c z (hc : getO V c = some z) => (by
  obtain ⟨j, h1, h2⟩:=getO_namM hc;obtain ⟨ob, hob⟩:=h.get h2;have hobj:=h.objs j ob z hob h2;exact ⟨fun W W' y hF => FreshO.parts (w:=W) (w':=W') (v:=y) hF hobj.ok hobj.vals, hobj.ok⟩ : (∀ (W W' : World) (y : Value), FreshO z W y W' -> _) /\ checkM z = true)
 have htb:=fun W (hb : Below w.heap.size w W) => ht.below hb ht.lt;have m1:=fun W => m40_obj ⟨P.f, 0, none⟩ W;have HRD:=hid hrd;have HNO:=hid hno;have HYES:=hid hyes;have HPAR:=hid hpar;have HTB:=hid htb;obtain ⟨R, hR⟩ : ∃ R, R = codedM jumpsM V o:=⟨_, rfl⟩;rw [<- hR];have HR:=hid hR;clear hrd hno hyes hpar htb hR h hv ht;go_enter Tryz.func48, Tryz.ntmps48;go_wp2_with fail;refine HRD.out.mono ?_;rintro e w2 ⟨hb, ⟨hm, k, hk, rfl⟩ | ⟨ma, mt, mp, c, mn, hm, rfl⟩⟩
 ·have hc : R = true:=by rw [HR.out, codedM, hm]
  have HC:=hid hc;have hk2 : (k != 0) = true:=by simpa using hk
  have hb2:=hb.alloc hb.size (.cells #[.int .i64 0, .int .i64 0, .int .i64 0, .int .i64 0, .int .i64 0] 72);have HB2:=hid hb2;clear hc hm hb hb2 hk HRD HNO HYES HPAR HTB HR;go_wp2_with fail;go_ret;exact ⟨by rw [HC.out]; rfl, HB2.out⟩
 ·have hb2:=hb.alloc hb.size (.cells #[.int .i64 ma, .int .i64 mt, .int .i64 mp, .int .i64 c, .int .i64 mn] 72);have bm:=Blk.new w2 72 #[.int .i64 ma, .int .i64 mt, .int .i64 mp, .int .i64 c, .int .i64 mn];have m3:=bm.cell 3;simp only [qTa, qTb, qTc] at m3;cases hg : getO V c with
  | none =>
   have hc : R = true:=by rw [HR.out, codedM, hm]; simp only [hg]
   have hn:=HNO.out _ hb2 c hg;unfold zeroO at hn;have HC:=hid hc;have HN:=hid hn;have HB2:=hid hb2;clear hc hm hb hb2 HRD HNO HYES HPAR HTB HR hg hn bm;go_wp2_with fail;refine HN.out.mono ?_;rintro e w3 ⟨rfl, hb3⟩;have hb4:=HB2.out.trans (hb3.mono HB2.out.size);have hb5:=hb4.alloc hb4.size (.cells #[.int .i64 0, .int .i64 0, .slice none 0 0, .slice none 0 0] 29);have HB5:=hid hb5;clear hb3 hb4 hb5;go_wp2_with fail;go_ret;exact ⟨by rw [HC.out]; rfl, HB5.out⟩
  | some z =>
   have hc : R = (decide (z.kind ≠ 2) || jumpsM z.bs):=by rw [HR.out, codedM, hm]; simp only [hg]
   have hy:=HYES.out _ hb2 c z hg;obtain ⟨hpt, hcz⟩:=HPAR.out c z hg;have hzb : z.bs.length <= 1000:=by
    obtain ⟨_, ⟨_, h3, _⟩ | ⟨_, _, h3⟩⟩:=checkM_parts hcz
    ·rw [h3]; simp
    ·exact h3
   have hjmp:=fun W Bj cbj (ht : Tabs W) (hcb : cbj <= 9223372036854775807) (hlb : z.bs.length <= cbj) (hB : Byts W Bj z.bs) => jumps_any W Bj z.bs cbj ht hcb hlb (by omega) hB;unfold obV at hpt;obtain ⟨n1, hn1⟩ : ∃ n, n = z.ws.length:=⟨_, rfl⟩;obtain ⟨n2, hn2⟩ : ∃ n, n = z.bs.length:=⟨_, rfl⟩;obtain ⟨k, hk⟩ : ∃ r, r = z.kind:=⟨_, rfl⟩;obtain ⟨cz, hcz2⟩ : ∃ r, r = z.cls:=⟨_, rfl⟩;obtain ⟨rj, hrj⟩ : ∃ r, r = jumpsM z.bs:=⟨_, rfl⟩;rw [<- hn1, <- hn2, <- hcz2, <- hk] at hpt;rw [<- hn2, <- hrj] at hjmp;rw [<- hk, <- hrj] at hc;have HC:=hid hc;have HY:=hid hy;have HP:=hid hpt;have HJ:=hid hjmp;have HN2:=hid hn2;have HB2:=hid hb2;clear hc hm hb hb2 HRD HNO HYES HPAR HR hg hy hpt hjmp hn1 hn2 hk hcz2 hrj hcz hzb bm;go_wp2_with fail;refine HY.out.mono ?_;rintro e w3 ⟨y, rfl, hF, hb3⟩;obtain ⟨A7, ca7, B7, cb7, rfl, hO7, -, -, -, -⟩:=HP.out _ _ y hF;have hb4:=HB2.out.trans (hb3.mono HB2.out.size);have hb5:=hb4.alloc hb4.size (.cells #[.int .i64 cz, .int .i64 k, .slice A7 n1 ca7, .slice B7 n2 cb7] 29);have b8:=Blk.new w3 29 #[.int .i64 cz, .int .i64 k, .slice A7 n1 ca7, .slice B7 n2 cb7];have hO8:=hO7.alloc (.cells #[.int .i64 cz, .int .i64 k, .slice A7 n1 ca7, .slice B7 n2 cb7] 29);have hj8:=HJ.out _ B7 cb7 (HTB.out _ hb5) hO8.cb63 (by rw [HN2.out]; exact hO8.lb) hO8.byts;have e1:=b8.cell 1;have e3:=b8.cell 3;simp only [qTa, qTb, qTc] at e1 e3;have HJ8:=hid hj8;have HB5:=hid hb5;clear hb3 hb4 hb5 hF b8 hO7 hO8 hj8 HJ HY HP HTB m3;by_cases k2 : k = 2
   ·subst k2;have hc : R = rj:=by rw [HC.out]; simp
    have HC2:=hid hc;clear hc;go_wp2_with fail;refine HJ8.out.mono ?_;rintro e w9 ⟨rfl, hb9⟩;have FIN:=hid (HB5.out.trans (hb9.mono HB5.out.size));clear hb9;go_wp2_with fail;go_ret;exact ⟨by rw [HC2.out]; rfl, FIN.out⟩
   ·have k2' : (k != 2) = true:=by simpa using k2
    have hc : R = true:=by rw [HC.out]; simp [k2]
    have HC2:=hid hc;clear hc HJ8;go_wp2_with fail;go_ret;exact ⟨by rw [HC2.out]; rfl, HB5.out⟩
theorem rrefs_any (o : Ob) (A : Option Addr) (ca : Nat) (B : Option Addr) (cb : Nat) (w : World) (hO : ObR w o A ca B cb) (hbig : o.ws.length <= 1048576) (hc : (namM o.cls).2 = true) :
  Calls Tryz.prog 55 #[.agg (obV o A ca B cb)] w (RetI (refsM o) w):=by
 have hb:=(Below.refl w.heap.size w).alloc (Nat.le_refl _) (.cells (obV o A ca B cb) 29);have hI:=hO.ints;have hM : refsM o = refsOf (o.cls :: o.ws):=rfl;have b0:=Blk.new w 29 (obV o A ca B cb);have hnm:=fun W => rnamed_any o.cls W;have hst:=refsOf_yes [] o.cls hc;have hbd0:=namM_bd o.cls;rw [hM];obtain ⟨cls, kind, ws, bs⟩:=o;unfold obV at *;simp only at *;obtain ⟨p, hp⟩ : ∃ p, p = ws.length:=⟨_, rfl⟩;obtain ⟨q, hq⟩ : ∃ q, q = bs.length:=⟨_, rfl⟩;rw [<- hp] at hbig;rw [<- hp, <- hq] at hb b0 ⊢;obtain ⟨nm, hnmE⟩ : ∃ nm, nm = namM cls:=⟨_, rfl⟩;rw [<- hnmE] at hnm hc hst hbd0;obtain ⟨id0, ok⟩:=nm;simp only at hc hst hbd0;subst hc;have hst2 : refsOf [cls] = [id0]:=by rw [show [cls] = [] ++ [cls] from rfl, hst]; rfl
 have c0:=b0.cell 0;simp only [qTa, qTb] at c0;have HP:=hid hp;have HI:=hid hI;have HST:=hid hst2;have B0:=hid b0;have HB:=hid hb;clear hp hq hI hst hst2 b0 hb hM hO hnmE;have hI2:=Ints.of_blk (blk_ints (w.alloc (.cells #[.int .i64 cls, .int .i64 kind, .slice A p ca, .slice B q cb] 29)) id0) (by intro v hv; simp at hv; omega);rw [World.size_alloc] at hI2;have HI2:=hid hI2;have hnil : OwnsI ((w.alloc (.cells #[.int .i64 cls, .int .i64 kind, .slice A p ca, .slice B q cb] 29)).alloc (.cells #[.int .i64 id0] 3)) (w.heap.size + 1) (.slice none 0 0) []:=World.ownsRow_nil _ _ _ _;have HNIL:=hid hnil;have HNM:=hid hnm;clear hI2 hnm hnil;go_enter Tryz.func55, Tryz.ntmps55;go_wp2_with fail;refine (HNM.out _).mono ?_;rintro e w1 ⟨rfl, rfl⟩;have hb1:=HB.out.alloc (by simp) (.cells #[.int .i64 id0] 3);go_wp2_with (at_builtin; (refine append_ints rfl _ _ rfl (w.heap.size + 1) _ [] rfl HNIL.out _ [id0] _ _ rfl rfl HI2.out (fun h => by cases h) ?c1 (by rw [World.size_alloc, World.size_alloc]; omega) ?_))
 case c1 => have h1 : [id0].length = 1:=rfl;have h2 : ([] : List Int).length = 0:=rfl;omega
 intro v3 w3 hown3 hg3;have hown3' : OwnsI w3 (w.heap.size + 1) v3 (refsOf (cls :: ws.take 0)):=by rw [List.take_zero, HST.out]; exact hown3
 have hb3:=hb1.grown hg3 (by simp; omega) (fun k hk => by cases hk);have d3:=(B0.out.alloc (.cells #[.int .i64 id0] 3)).grown hg3 (by intro h; cases h);have D3:=hid d3;have hlt3:=d3.lt;clear hown3 hg3 hb1 B0 HI2 c0 d3 HB;go_wp2_with fail;go_loopg [3, 6] p (fun gk s3 s6 wr => ∃ j : Nat, j + gk = p /\ s6 = .int .i64 j /\ OwnsI wr (w.heap.size + 1) s3 (refsOf (cls :: ws.take j)) /\ Below w.heap.size w wr /\ Aside (Blk wr w.heap.size 29 #[.int .i64 cls, .int .i64 kind, .slice A p ca, .slice B q cb]))
 case atStart => exact ⟨0, by omega, rfl, hown3', hb3, D3.out⟩
 case round =>
  obtain ⟨j, hj, rfl, hown, hbr, hbx⟩:=hrel;have hsz:=hbr.size;have hbl:=hbx.out.lt;have x2:=hbx.out.cell 2;simp only [qTa, qTb, qTc] at x2;cases gk with
  | zero =>
   have hjn : ¬ ((j : Int) < (p : Int)):=by omega
   have e : ws.take j = ws:=take_of_length_le (by have:=HP.out; omega);rw [e] at hown;go_wp2_with fail;go_ret;refine ⟨_, rfl, ?_, hbr⟩;exact ⟨hown.1, hown.2.imp id (fun ⟨g, cap, cur, h1, h2, h3⟩ => ⟨g, cap, cur, h1, by omega, h3⟩)⟩
  | succ g =>
   have hjn : (j : Int) < (p : Int):=by omega
   obtain ⟨x, hx⟩ : ∃ x, ws[j]? = some x:=⟨_, getElem?_eq_getElem (by have:=HP.out; omega)⟩;obtain ⟨_, b, off, rfl, _, q0⟩:=(HI.out.below hbr) j x hx;have hs : cls :: ws.take (j + 1) = (cls :: ws.take j) ++ [x]:=by rw [take_snoc ws j x hx]; rfl
   have hlen:=refsOf_length (cls :: ws.take j);have hl2 : (ws.take j).length <= j:=List.length_take_le _ _;have hl3 : (refsOf (cls :: ws.take j)).length <= j + 1:=by simp only [List.length_cons] at hlen; omega
   have hnm:=fun W => rnamed_any x W;have hyes:=refsOf_yes (cls :: ws.take j) x;have hno:=refsOf_no (cls :: ws.take j) x;have hbd:=namM_bd x;obtain ⟨r, hr⟩ : ∃ r, r = namM x:=⟨_, rfl⟩;rw [<- hr] at hnm hyes hno hbd;rw [<- hs] at hyes hno;obtain ⟨id, ok⟩:=r;simp only at hyes hno hbd;have HN:=hid hnm;have HBX:=hid hbx.out;clear hs hx hlen hl2 hr hnm hbx;cases ok
   ·have HNO:=hid (hno rfl);clear hno hyes;go_wp2_with fail;refine (HN.out _).mono ?_;rintro e w' ⟨rfl, rfl⟩;go_wp2_with fail;go_roundg g
    case measure => omega
    case rel => exact ⟨j + 1, by omega, by go_num, by rw [HNO.out]; exact hown, hbr, HBX.out⟩
   ·have HY:=hid (hyes rfl);clear hno hyes;have hown2 : OwnsI (wr.alloc (.cells #[.int .i64 id] 3)) (w.heap.size + 1) _ _:=World.ownsRow.alloc hown (.cells #[.int .i64 id] 3);have hI2:=Ints.of_blk (blk_ints wr id) (by intro v hv; simp at hv; omega);have HI2:=hid hI2;have hbr2:=hbr.alloc hsz (.cells #[.int .i64 id] 3);have bx2:=HBX.out.alloc (.cells #[.int .i64 id] 3);have HBX2:=hid bx2;clear hown hI2 hbr HBX bx2;go_wp2_with fail;refine (HN.out _).mono ?_;rintro e w' ⟨rfl, rfl⟩;go_wp2_with (at_builtin; refine append_ints rfl _ _ rfl (w.heap.size + 1) _ (refsOf (cls :: ws.take j)) rfl hown2 _ [id] _ _ rfl rfl HI2.out (fun h => by cases h) ?c1 (by simp; omega) ?_)
    case c1 => have : [id].length = 1:=rfl;omega
    intro v5 w5 hown5 hg5;have hb5:=hbr2.grown hg5 (by simp; omega) (fun k hk => by have:=(hown2.lt k hk).1; omega);have bx5 : Aside (Blk w5 w.heap.size 29 #[.int .i64 cls, .int .i64 kind, .slice (some ⟨b, off, none⟩) p ca, .slice B q cb]):=HBX2.out.grown hg5 (fun h => by have:=(hown2.lt _ h.symm).1; omega);have hown6 : OwnsI w5 (w.heap.size + 1) v5 (refsOf (cls :: ws.take (j + 1))):=by rw [HY.out]; exact hown5
    clear hown5 hg5 hown2 hbr2 HI2 HBX2;go_wp2_with fail;go_roundg g
    case measure => omega
    case rel => exact ⟨j + 1, by omega, by go_num, hown6, hb5, bx5⟩
def leAll (l : List Int) (n : Int) : Bool:=l.all fun k => decide (k <= n)
theorem leAll_yes {l : List Int} {n : Int} (h : ∀ i, i < l.length -> ∀ x, l[i]? = some x -> x <= n) : leAll l n = true:=by
 unfold leAll;rw [List.all_eq_true];intro x hx;obtain ⟨i, hi⟩:=List.getElem?_of_mem hx
 simpa using h i (List.getElem?_eq_some_iff.1 hi).1 x hi
theorem leAll_no {l : List Int} {n x : Int} (h : x ∈ l) (hx : n < x) : leAll l n = false:=by unfold leAll;rw [List.all_eq_false];exact ⟨x, h, by simp; omega⟩
theorem names_any (o : Ob) (A : Option Addr) (ca : Nat) (B : Option Addr) (cb : Nat) (n : Int) (w : World) (hO : ObR w o A ca B cb) (hbig : o.ws.length <= 1000) (hc : (namM o.cls).2 = true) :
  Calls Tryz.prog 22 #[.agg (obV o A ca B cb), .int .i64 n] w fun e w' => e = .returned (.bool (leAll (refsM o) n)) /\ Below w.heap.size w w':=by
 have hal:=(Below.refl w.heap.size w).alloc (Nat.le_refl _) (.cells (obV o A ca B cb) 29);have hrf:=rrefs_any o A ca B cb _ (hO.alloc (.cells (obV o A ca B cb) 29)) (by omega) hc;have b0:=Blk.new w 29 (obV o A ca B cb);have hbd:=refsOf_bd (o.cls :: o.ws);have hM : refsM o = refsOf (o.cls :: o.ws):=rfl;rw [<- hM] at hbd;have hlen:=refsOf_length (o.cls :: o.ws);rw [<- hM, List.length_cons] at hlen;obtain ⟨L, hL⟩ : ∃ L, L = refsM o:=⟨_, rfl⟩;rw [<- hL] at hrf hbd hlen ⊢;unfold obV at *;obtain ⟨n1, hn1⟩ : ∃ n, n = o.ws.length:=⟨_, rfl⟩;obtain ⟨n2, hn2⟩ : ∃ n, n = o.bs.length:=⟨_, rfl⟩;rw [<- hn1, <- hn2] at hal hrf b0 ⊢;have hLl : L.length <= 1001:=by omega
 have c0:=b0.cell 0;have c1:=b0.cell 1;have c2:=b0.cell 2;have c3:=b0.cell 3;simp only [qTa, qTb, qTc] at c0 c1 c2 c3;have HRF:=hid hrf;have HAL:=hid hal;have HBD:=hid hbd;clear hrf hal hbd b0 hM hlen hL hn1 hn2 hO hbig hc;obtain ⟨R, hR⟩ : ∃ R, R = leAll L n:=⟨_, rfl⟩;have yes : (∀ i, i < L.length -> ∀ x, L[i]? = some x -> x <= n) -> R = true:=fun h => by rw [hR]; exact leAll_yes h
 have no : ∀ x ∈ L, n < x -> R = false:=fun x hx h => by rw [hR]; exact leAll_no hx h
 rw [<- hR];have YES:=hid yes;have NO:=hid no;clear hR yes no;go_enter Tryz.func22, Tryz.ntmps22;go_wp2_with fail;refine HRF.out.mono ?_;rintro e w2 ⟨v, rfl, hv, hb⟩;obtain ⟨A2, cap2, rfl, hlc, hc63, hI, hna⟩:=hv.reads (fun x hx => by have:=HBD.out x hx; omega);have HI:=hid hI;have HB:=hid (HAL.out.trans (hb.mono HAL.out.size));obtain ⟨q, hq⟩ : ∃ q, q = L.length:=⟨_, rfl⟩;rw [<- hq] at hLl hlc ⊢;have HQ:=hid hq;clear hv hI hb hna HRF HAL HBD hq c0 c1 c2 c3;go_wp2_with fail;go_loopg [6] q (fun gk s6 wr => ∃ j : Nat, j + gk = q /\ s6 = .int .i64 j /\ w2 = wr /\ Aside (∀ i, i < j -> ∀ x, L[i]? = some x -> x <= n))
 case atStart => exact ⟨0, by omega, rfl, rfl, fun i hi => absurd hi (by omega)⟩
 case round =>
  obtain ⟨j, hj, rfl, rfl, hall⟩:=hrel;cases gk with
  | zero =>
   have hjn : ¬ ((j : Int) < q):=by omega
   have hr : R = true:=YES.out (fun i hi => hall.out i (by have:=HQ.out; omega));have HR:=hid hr;clear hr hall;go_wp2_with fail;go_ret;exact ⟨by rw [HR.out]; rfl, HB.out⟩
  | succ g =>
   have hjn : (j : Int) < q:=by omega
   obtain ⟨x, hx⟩ : ∃ x, L[j]? = some x:=⟨_, getElem?_eq_getElem (by have:=HQ.out; omega)⟩;obtain ⟨_, b, off, rfl, _, q0⟩:=HI.out j x hx;by_cases hxn : n < x
   ·have hr:=NO.out x (mem_of_getElem? hx) hxn;have HR:=hid hr;clear hr hall hx;go_wp2_with fail;go_ret;exact ⟨by rw [HR.out]; rfl, HB.out⟩
   ·have nx : Aside (∀ i, i < j + 1 -> ∀ x, L[i]? = some x -> x <= n):=by
     intro i hi y hy;rcases Nat.lt_or_ge i j with h1 | h1
     ·exact hall.out i h1 y hy
     ·have : i = j:=by omega
      subst this;rw [hx] at hy;cases hy
      omega
    clear hall hx;go_wp2_with fail;go_roundg g
    case measure => omega
    case rel => exact ⟨j + 1, by omega, by go_num, rfl, nx⟩
theorem named1_any (x n : Int) (c : Nat) (w : World) (hc : w.cell? ⟨c, 0, none⟩ = some (.int .i64 n)) :
  Calls Tryz.prog 78 #[.int .i64 x, .pointer (some ⟨c, 0, none⟩)] w fun e w' => e = .returned (.bool (decide (n < x))) /\ w = w':=by
 go_enter Tryz.func78, Tryz.ntmps78;go_wp2_with fail;go_ret;exact ⟨by simp, rfl⟩
theorem idx78_any (w : World) (A : Option Addr) (xs : List Int) (cap : Nat) (n : Int) (c : Nat) (hA : Ints w A xs) (hl : xs.length <= 9223372036854775807) (hc : w.cell? ⟨c, 0, none⟩ = some (.int .i64 n)) :
  Calls Tryz.prog 108 #[.slice A xs.length cap, .func (.func 78) #[] #[.pointer (some ⟨c, 0, none⟩)]] w fun e w' => ∃ r : Int, e = .returned (.int .i64 r) /\ decide (0 <= r) = !leAll xs n /\ w = w':=by
 obtain ⟨p, hp⟩ : ∃ p, p = xs.length:=⟨_, rfl⟩;obtain ⟨R, hR⟩ : ∃ R, R = leAll xs n:=⟨_, rfl⟩;have yes : (∀ i, i < xs.length -> ∀ x, xs[i]? = some x -> x <= n) -> R = true:=fun h => by rw [hR]; exact leAll_yes h
 have no : ∀ x ∈ xs, n < x -> R = false:=fun x hx h => by rw [hR]; exact leAll_no hx h
 rw [<- hR, <- hp];rw [<- hp] at hl;have YES:=hid yes;have NO:=hid no;have HP:=hid hp;have HA:=hid hA;have h78:=fun x => named1_any x n c w hc;have H78:=hid h78;clear yes no hp hR hA h78 hc;go_enter Tryz.func108, Tryz.ntmps108;go_wp2_with fail;go_loopg [8] p (fun g s8 wr => ∃ j : Nat, j + g = p /\ s8 = .int .i64 j /\ w = wr /\ Aside (∀ i, i < j -> ∀ x, xs[i]? = some x -> x <= n))
 case atStart => exact ⟨0, by omega, rfl, rfl, fun i hi => absurd hi (by omega)⟩
 case round =>
  obtain ⟨j, hj, rfl, rfl, hall⟩:=hrel;cases gk with
  | zero =>
   have hjn : ¬ ((j : Int) < p):=by omega
   have hr : R = true:=YES.out (fun i hi => hall.out i (by have:=HP.out; omega));have HRR:=hid hr;clear hr hall;go_wp2_with fail;go_ret;exact ⟨-1, rfl, by rw [HRR.out]; rfl, rfl⟩
  | succ g =>
   have hjn : (j : Int) < p:=by omega
   obtain ⟨x, hx⟩ : ∃ x, xs[j]? = some x:=⟨_, getElem?_eq_getElem (by have:=HP.out; omega)⟩;obtain ⟨_, b, off, rfl, _, c0⟩:=HA.out j x hx;by_cases hxn : n < x
   ·have hr:=NO.out x (mem_of_getElem? hx) hxn;have HRR:=hid hr;have hd : decide (n < x) = true:=by simpa using hxn
    clear hr hall hx;go_wp2_with fail;refine (H78.out x).mono ?_;rw [hd];rintro e w' ⟨rfl, rfl⟩;go_wp2_with fail;go_ret;exact ⟨(j : Int), rfl, by rw [HRR.out]; simp, rfl⟩
   ·have hall2 : Aside (∀ i, i < j + 1 -> ∀ y, xs[i]? = some y -> y <= n):=by
     intro i hi y hy;by_cases e : i = j
     ·subst e;rw [hx] at hy;cases hy
      omega
     ·exact hall.out i (by omega) y hy
    have hd : decide (n < x) = false:=by simpa using hxn
    clear hall hx;go_wp2_with fail;refine (H78.out x).mono ?_;rw [hd];rintro e w' ⟨rfl, rfl⟩;go_wp2_with fail;go_roundg g
    case measure => omega
    case rel => exact ⟨j + 1, by omega, by go_num, rfl, hall2⟩
theorem has78_any (w : World) (A : Option Addr) (xs : List Int) (cap : Nat) (n : Int) (c : Nat) (hA : Ints w A xs) (hl : xs.length <= 9223372036854775807) (hc : w.cell? ⟨c, 0, none⟩ = some (.int .i64 n)) :
  Calls Tryz.prog 77 #[.slice A xs.length cap, .func (.func 78) #[] #[.pointer (some ⟨c, 0, none⟩)]] w fun e w' => e = .returned (.bool (!leAll xs n)) /\ w = w':=by
 have h:=idx78_any w A xs cap n c hA hl hc;obtain ⟨R, hR⟩ : ∃ R, R = !leAll xs n:=⟨_, rfl⟩;obtain ⟨p, hp⟩ : ∃ p, p = xs.length:=⟨_, rfl⟩;rw [<- hR, <- hp] at h ⊢;have H:=hid h;clear h hR hp hA hl hc;go_enter Tryz.func77, Tryz.ntmps77;go_wp2_with fail;refine H.out.mono ?_;rintro e w' ⟨r, rfl, hr, rfl⟩;have HR:=hid hr;clear hr H;go_wp2_with fail;go_ret;exact ⟨by rw [<- HR.out]; rfl, rfl⟩
theorem named47_any (o : Ob) (A : Option Addr) (ca : Nat) (B : Option Addr) (cb : Nat) (n : Int) (w : World) (hO : ObR w o A ca B cb) (hbig : o.ws.length <= 1000) :
  Calls Tryz.prog 47 #[.agg (obV o A ca B cb), .int .i64 n] w fun e w' => e = .returned (.bool (leAll (refsM o) n)) /\ Below w.heap.size w w':=by
 have hal:=((Below.refl w.heap.size w).alloc (Nat.le_refl _) (.cells (obV o A ca B cb) 29)).alloc (by simp) (.cells #[.int .i64 n] 3);have hrf:=refs_any o A ca B cb _ ((hO.alloc (.cells (obV o A ca B cb) 29)).alloc (.cells #[.int .i64 n] 3)) (by omega);have b0:=(Blk.new w 29 (obV o A ca B cb)).alloc (.cells #[.int .i64 n] 3);have b1:=Blk.new2 w (.cells (obV o A ca B cb) 29) 3 #[.int .i64 n];have hbd:=refsOf_bd (o.cls :: o.ws);have hM : refsM o = refsOf (o.cls :: o.ws):=rfl;rw [<- hM] at hbd;have hlen:=refsOf_length (o.cls :: o.ws);rw [<- hM, List.length_cons] at hlen;obtain ⟨L, hL⟩ : ∃ L, L = refsM o:=⟨_, rfl⟩;rw [<- hL] at hrf hbd hlen ⊢;unfold obV at *;obtain ⟨n1, hn1⟩ : ∃ n, n = o.ws.length:=⟨_, rfl⟩;obtain ⟨n2, hn2⟩ : ∃ n, n = o.bs.length:=⟨_, rfl⟩;rw [<- hn1, <- hn2] at hal hrf b0 b1 ⊢;have c0:=b0.cell 0;have c1:=b0.cell 1;have c2:=b0.cell 2;have c3:=b0.cell 3;simp only [qTa, qTb, qTc] at c0 c1 c2 c3;obtain ⟨R, hR⟩ : ∃ R, R = leAll L n:=⟨_, rfl⟩;rw [<- hR];have HR:=hid hR;have HRF:=hid hrf;have HAL:=hid hal;have HBD:=hid hbd;have B1:=hid b1;have hLl : L.length <= 1001:=by omega
 clear hrf hal hbd b0 b1 hM hlen hL hn1 hn2 hO hbig hR;go_enter Tryz.func47, Tryz.ntmps47;go_wp2_with fail;refine HRF.out.mono ?_;rintro e w2 ⟨v, rfl, hv, hb⟩;obtain ⟨A2, cap2, rfl, hlc, hc63, hI, hna⟩:=hv.reads (fun x hx => by have:=HBD.out x hx; omega);have y1:=B1.out.keep hb;have q0:=y1.cell 0;simp only [qTa, qTb] at q0;have hh:=has78_any w2 A2 L cap2 n (w.heap.size + 1) hI (by omega) q0;rw [<- HR.out] at hh;have HH:=hid hh;have HB:=hid (HAL.out.trans (hb.mono HAL.out.size));clear hv hI hb hna HRF HAL HBD y1 q0 B1 hh c0 c1 c2 c3;go_wp2_with fail;refine HH.out.mono ?_;rintro e w3 ⟨rfl, rfl⟩;go_wp2_with fail;go_ret;exact ⟨by simp, HB.out⟩
def begI (l : List O4) (j : Nat) (T : Int) : Bool:=(List.range j).any fun i => (posN l i : Int) == T
theorem begI_next (l : List O4) (j : Nat) (T : Int) : begI l (j + 1) T = (begI l j T || (posN l j : Int) == T):=by simp [begI, List.range_succ]
theorem begI_neg (l : List O4) (j : Nat) (T : Int) (h : T < 0) : begI l j T = false:=by rw [begI, List.any_eq_false];intro i _;simp; omega
theorem begI_great (l : List O4) (j : Nat) (T : Int) (h : (lens l : Int) < T) : begI l j T = false:=by rw [begI, List.any_eq_false];intro i _;have:=posN_le l i;simp; omega
theorem begI_nat (l : List O4) (j : Nat) (T : Nat) : begI l j T = begN l j T:=by
 rw [begI, begN, Bool.eq_iff_iff];simp only [List.any_eq_true, List.mem_range, beq_iff_eq];constructor
 ·rintro ⟨i, h, e⟩; exact ⟨i, h, by omega⟩
 ·rintro ⟨i, h, e⟩; exact ⟨i, h, by omega⟩
theorem okAt_eq (l : List O4) (i : Nat) (o : O4) : okAt l (lens l) i o = (!(o.k == 0) && (decide (o.k < 22) || decide (24 < o.k) ||
  (decide ((posN l (i + 1) : Int) + o.n = (lens l : Int)) || begI l l.length ((posN l (i + 1) : Int) + o.n)))):=by
 have hk : (!(o.k == 22 || (o.k == 23 || o.k == 24))) = (decide (o.k < 22) || decide (24 < o.k)):=by rw [Bool.eq_iff_iff]; simp; omega
 rw [okAt, hk]
 congr 2;obtain ⟨T, hT⟩ : ∃ T : Int, T = (posN l (i + 1) : Int) + o.n:=⟨_, rfl⟩;rw [<- hT];by_cases h0 : T < 0
 ·rw [begI_neg _ _ _ h0, decide_eq_false (p:=0 <= T) (by omega), decide_eq_false (p:=T = (lens l : Int)) (by omega)]; rfl
 by_cases h1 : (lens l : Int) < T
 ·rw [begI_great _ _ _ h1, decide_eq_false (p:=T <= (lens l : Int)) (by omega), decide_eq_false (p:=T = (lens l : Int)) (by omega)]; simp
 obtain ⟨t, rfl⟩ : ∃ t : Nat, T = t:=⟨T.toNat, by omega⟩;rw [begI_nat, decide_eq_true (p:=0 <= (t : Int)) (by omega), decide_eq_true (p:=(t : Int) <= (lens l : Int)) (by omega), Bool.true_and, Bool.true_and, Int.toNat_natCast, Bool.or_comm]
 congr 1;rw [Bool.eq_iff_iff]; simp; omega
theorem rjumps_any (w : World) (A : Option Addr) (bs : List Int) (cap : Nat) (hcap : cap <= 9223372036854775807) (hlen : bs.length <= cap) (hbig : bs.length <= 4194304) (hB : Byts w A bs) :
  Calls Tryz.prog 25 #[.slice A bs.length cap] w fun e w' => e = .returned (.bool (jumpsM bs)) /\ Below w.heap.size w w':=by
 have hv : ∀ v ∈ bs, 0 <= v /\ v <= 255:=by intro v hv;obtain ⟨j, hj⟩:=List.getElem?_of_mem hv;obtain ⟨h1, h2, _⟩:=hB j v hj;exact ⟨h1, h2⟩
 have hall:=rall_any w A bs cap hcap hlen hbig hB;obtain ⟨n, hn⟩ : ∃ n, n = bs.length:=⟨_, rfl⟩;have hfacts:=allM_facts bs hv;obtain ⟨r, hr⟩ : ∃ r, r = allM bs:=⟨_, rfl⟩;have hJ : jumpsM bs = (r.2 == 0 && okFrom r.1 n r.1.length):=by rw [hr, hn]; rfl
 rw [<- hr] at hall hfacts;rw [<- hn] at hall hfacts hbig hlen;rw [hJ, <- hn];obtain ⟨J, hJJ⟩ : ∃ J, J = (r.2 == 0 && okFrom r.1 n r.1.length):=⟨_, rfl⟩;rw [<- hJJ];obtain ⟨l, err⟩:=r;simp only at hfacts hJJ;have HALL:=hid hall;have HF:=hid hfacts;have HJ:=hid hJJ;clear hall hfacts hJJ hJ hr hn hv hB;go_enter Tryz.func25, Tryz.ntmps25;go_wp2_with fail;refine HALL.out.mono ?_;rintro e w1 ⟨v, rfl, hown, hb1, _⟩;obtain ⟨A1, cap1, rfl, hlc, hc1, hops⟩:=hown.reads;clear hown HALL;have hsz1:=hb1.size;simp only at hops hlc ⊢;by_cases he : err = 0
 ·subst he;obtain ⟨hf1, hf2⟩:=HF.out rfl;have hkl:=length_le_lens l hf1;obtain ⟨k, hk⟩ : ∃ k, k = l.length:=⟨_, rfl⟩;have hJ0 : J = okFrom l n k:=by rw [HJ.out, hk]; rfl
  have HJ1:=hid hJ0;rw [<- hk] at hkl hlc ⊢;have HF1:=hid hf1;have HF2:=hid hf2;have HO:=hid hops;have HK:=hid hk;have HB1:=hid hb1;clear hJ0 hf1 HJ HF hops hk hb1;rw [hf2] at hkl;clear hf2;go_wp2_with fail;go_loopg [5, 6] k (fun g s5 s6 wr => ∃ i : Nat, i + g = k /\ s6 = .int .i64 i /\ s5 = .int .i64 (posN l i) /\ wr = w1 /\ Aside (J = okFrom l n g))
  case atStart => exact ⟨0, by omega, rfl, rfl, rfl, HJ1.out⟩
  case round =>
   obtain ⟨i, hi, rfl, rfl, hwr, hJ⟩:=hrel;subst hwr;clear HJ1;cases gk with
   | zero =>
    have hin : ¬ ((i : Int) < k):=by omega
    have hJ1 : Aside (J = true):=by show _ = _; rw [hJ.out, okFrom]
    clear hJ;go_wp2;go_ret;rw [hJ1.out];exact ⟨rfl, HB1.out⟩
   | succ g =>
    have hij : (i : Int) < k:=by omega
    have hil : i < l.length:=by have:=HK.out; omega
    obtain ⟨o, ho⟩ : ∃ o, l[i]? = some o:=⟨_, getElem?_eq_getElem hil⟩;obtain ⟨hl1, hl2, hn1, hn2⟩:=HF1.out o (mem_of_getElem? ho);have hp:=posN_next l i o ho;have hple2:=posN_le l (i + 1);rw [HF2.out] at hple2;obtain ⟨q, hq⟩ : ∃ q : Nat, o.l = q:=⟨o.l.toNat, by omega⟩;have hp' : posN l (i + 1) = posN l i + q:=by rw [hp, hq]; rfl
    have hpn2 : posN l i + q <= n:=by omega
    have HP:=hid hp';have hJ1:=hJ.out;have hidx : l.length - (g + 1) = i:=by have:=HK.out; omega
    rw [okFrom, hidx, ho] at hJ1;have hok:=okAt_eq l i o;rw [HF2.out] at hok;have hJ2 : J = (okAt l n i o && okFrom l n g):=hJ1;rw [hok] at hJ2;obtain ⟨b, off, rfl, hbl, c0, c1, c2, c3⟩:=HO.out i o ho;rw [hq] at c3;clear hJ hJ1 hidx hp hp' hq ho hil hple2 hl1 hl2 hok;by_cases h0 : o.k = 0
    ·have HOK : Aside (J = false):=by show _ = _; rw [hJ2, h0]; rfl
     rw [h0] at c0;clear hJ2;go_wp2
     try rw [Exit.noGoto_ret]
     go_ret;rw [HOK.out];exact ⟨rfl, HB1.out⟩
    have hk0 : (o.k == 0) = false:=by simpa using h0
    by_cases h2 : o.k < 22
    ·have HOK : Aside (J = okFrom l n g):=by show _ = _; rw [hJ2, hk0, decide_eq_true h2]; rfl
     have h3 : ¬ (24 < o.k):=by omega
     clear hJ2;go_wp2;go_roundg g
     case measure => omega
     case rel => exact ⟨i + 1, by omega, by go_num, by rw [HP.out]; go_num, rfl, HOK⟩
    by_cases h3 : 24 < o.k
    ·have HOK : Aside (J = okFrom l n g):=by show _ = _; rw [hJ2, hk0, decide_eq_true h3]; simp
     clear hJ2;go_wp2;go_roundg g
     case measure => omega
     case rel => exact ⟨i + 1, by omega, by go_num, by rw [HP.out]; go_num, rfl, HOK⟩
    obtain ⟨T, hT⟩ : ∃ T : Int, T = (posN l i : Int) + (q : Int) + o.n:=⟨_, rfl⟩;have hpI : ((posN l (i + 1) : Nat) : Int) + o.n = T:=by rw [HP.out, hT]; omega
    rw [hpI, hk0, decide_eq_false h2, decide_eq_false h3, <- HK.out] at hJ2;have hJ3 : J = ((decide (T = (n : Int)) || begI l k T) && okFrom l n g):=by rw [hJ2]; simp
    have HJ3:=hid hJ3;have HT:=hid hT;clear hJ2 hJ3 hpI hk0;have hTb : -9223372036854775808 <= (posN l i : Int) + (q : Int) + o.n /\ (posN l i : Int) + (q : Int) + o.n <= 9223372036854775807:=by omega
    obtain ⟨bb, hbb⟩ : ∃ bb, bb = ((posN l i : Int) + (q : Int) + o.n == (n : Int)):=⟨_, rfl⟩;have hbb':=hbb.symm;have HBB:=hid hbb;clear hbb hT;go_wp2_with fail;go_loopg [7, 8, 9] k (fun g s7 s8 s9 wz => ∃ j : Nat, j + g = k /\ s9 = .int .i64 j /\ s7 = .int .i64 (posN l j) /\ s8 = .bool (bb || begI l j T) /\ wz = wr)
    case atStart => exact ⟨0, by omega, rfl, rfl, by simp [begI], rfl⟩
    case round =>
     obtain ⟨j, hj, rfl, rfl, rfl, hwr⟩:=hrel;subst hwr;cases gk with
     | zero =>
      have hin : ¬ ((j : Int) < k):=by omega
      have hjk : j = k:=by omega
      subst hjk;obtain ⟨z, hz⟩ : ∃ z, z = (bb || begI l j T):=⟨_, rfl⟩;have hJ4 : Aside (J = (z && okFrom l n g)):=by show _ = _; rw [HJ3.out, hz, HBB.out, HT.out]; rfl
      rw [<- hz];clear hz HJ3 HBB;cases z
      ·go_wp2
       try rw [Exit.noGoto_ret]
       go_ret;rw [hJ4.out];exact ⟨rfl, HB1.out⟩
      ·go_wp2;go_roundg g
       case measure => omega
       case rel => exact ⟨i + 1, by omega, by go_num, by rw [HP.out]; go_num, rfl, by show _ = _; rw [hJ4.out, Bool.true_and]⟩
     | succ g2 =>
      have hjk : (j : Int) < k:=by omega
      have hjl : j < l.length:=by have:=HK.out; omega
      obtain ⟨o2, ho2⟩ : ∃ o, l[j]? = some o:=⟨_, getElem?_eq_getElem hjl⟩;obtain ⟨hm1, hm2, _, _⟩:=HF1.out o2 (mem_of_getElem? ho2);have hp:=posN_next l j o2 ho2;have hple2:=posN_le l (j + 1);rw [HF2.out] at hple2;obtain ⟨q2, hq2⟩ : ∃ q : Nat, o2.l = q:=⟨o2.l.toNat, by omega⟩;have hp' : posN l (j + 1) = posN l j + q2:=by rw [hp, hq2]; rfl
      have hpn3 : posN l j + q2 <= n:=by omega
      have HP2:=hid hp';have hnext:=begI_next l j T;have HN:=hid hnext;obtain ⟨b2, off2, hA2, hbl2, d0, d1, d2, d3⟩:=HO.out j o2 ho2;injection hA2 with hA2;injection hA2 with e1 e2 e3;subst e1;subst e2;rw [hq2] at d3;clear hp hp' hq2 ho2 hjl hple2 hm1 hm2 hnext HBB HJ3;by_cases hbt : (posN l j : Int) = T
      ·have hbt2 : (posN l j : Int) = (posN l i : Int) + (q : Int) + o.n:=by rw [hbt, HT.out]
       have HBT:=hid hbt;clear hbt;go_wp2;go_roundg g2
       case measure => omega
       case rel => exact ⟨j + 1, by omega, by go_num, by rw [HP2.out]; go_num, by rw [HN.out, HBT.out]; simp, rfl⟩
      ·have hbt2 : ¬ ((posN l j : Int) = (posN l i : Int) + (q : Int) + o.n):=by rw [<- HT.out]; exact hbt
       have hbt3 : ((posN l j : Int) == T) = false:=by simpa using hbt
       have HBT:=hid hbt3;clear hbt hbt3;go_wp2;go_roundg g2
       case measure => omega
       case rel => exact ⟨j + 1, by omega, by go_num, by rw [HP2.out]; go_num, by rw [HN.out, HBT.out]; simp, rfl⟩
 ·have hJ0 : Aside (J = false):=by show _ = _; rw [HJ.out]; simp [he]
  clear HJ HF;go_wp2
  try rw [Exit.noGoto_ret]
  go_ret;rw [hJ0.out];exact ⟨rfl, hb1⟩
end Go.Proofs.YtgaemfghpibeeaaGreatDoor
