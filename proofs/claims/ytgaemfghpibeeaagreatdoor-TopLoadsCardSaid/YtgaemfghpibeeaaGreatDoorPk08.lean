/-
  The parts of a paged memory, the law that holds between them, its first steps. Conditions: each theorem names its own.
-/
import Derived.Test.YtgaemfghpibeeaaGreatDoorPk07
set_option maxRecDepth 100000
set_option maxHeartbeats 6000000
open Go.Lib (hid)
open List (getElem?_eq_getElem mem_of_getElem? getElem?_append_left getElem?_append_right getD_eq_getElem?_getD eq_nil_of_length_eq_zero getElem?_eq_none_iff length_replicate take_of_length_le length_set length_append)
namespace Go.Proofs.YtgaemfghpibeeaaGreatDoor
open Go.RowKit Go.Maps
attribute [local go_sem ↓] Go.wp_at_zero Go.wp_at_succ
theorem rowsV_set (V : List Ob) (i : Nat) (o : Ob) : rowsV (V.set i o) = (rowsV V).set i (encM o):=by simp [rowsV, List.map_set]
theorem extO_set {V : List Ob} {i k : Nat} {o o' : Ob} (hi : V[i]? = some o) (hl : (encM o').length = (encM o).length) (x y : Ob) (hxy : (encM x).length = (encM y).length) : extO (V.set i o') k x = extO V k y:=by unfold extO;rw [rowsV_set, (rowsLen_set (rowsV_get hi) hl).2 k, hxy]
theorem only_realloc (w : World) (a b : Obj) : Only (fun g => g = w.heap.size) (w.alloc a) (w.alloc b) :=
 ⟨rfl, rfl, rfl, by simp, fun g hg hs => by
  have hl : g < w.heap.size:=by simp at hg; omega
  rw [Below.heap_alloc w b g hl, Below.heap_alloc w a g hl]⟩
theorem SecAt.turn {w w' : World} {Q : SecP} {N : Nat} {V : List Ob} {i : Nat} {o o' : Ob} (h : SecAt w Q N V) (hi : V[i]? = some o) (hc : checkM o' = true) (hl : (encM o').length = (encM o).length)
  (hh : Blk w' Q.q 112 #[.pointer (some ⟨Q.P.s, 0, none⟩), .map (some Q.t), .int .i64 V.length]) (hs : SpaceAt w' Q.P N ((rowsV V).set i (encM o'))) {D : DataW Value} (hM0 : MapAt w 3 Q.t D) (hsz : Maps.size D <= V.length)
  (hat : (∀ i o, V[i]? = some o -> Maps.has D (idL (i + 1)) = true /\ D.atKey (idL (i + 1)) (.held (extV 0 0 0)) = .held (extO V i o)) /\ ∀ id : Int, (id < 1 \/ (V.length : Int) < id) -> Maps.has D (.int .i64 id) = false)
  (hM : MapAt w' 3 Q.t (D.put (idL (i + 1)) (.held (extO V i o)))) : SecAt w' Q N (V.set i o'):=by
 have hT:=World.ownsMap.tidy hM0 law3;have hil:=(List.getElem?_eq_some_iff.1 hi).1;refine ⟨by rw [length_set]; exact hh, by rw [rowsV_set]; exact hs, ⟨_, hM, ?_, ?_, ?_⟩, h.apart, ?_, by rw [length_set]; exact h.small⟩
 ·rw [size_put hT, (hat.1 i o hi).1, length_set]
  simpa using hsz
 ·intro k x hk;by_cases e : i = k
  ·subst e;rw [List.getElem?_set, if_pos rfl, if_pos hil] at hk;injection hk with hk;subst hk;refine ⟨has_put_same hM0.isMap (idL_key _) _, ?_⟩;rw [atKey_put_same hM0.isMap (idL_key _), extO_set hi hl o' o hl]
  ·rw [List.getElem?_set, if_neg e] at hk;have hne : idL (k + 1) ≠ idL (i + 1):=idL_ne (by omega);rw [has_put_other hne, atKey_put_other hne, extO_set hi hl x x rfl];exact hat.1 k x hk
 ·intro id hid;rw [length_set] at hid;rw [has_put_other (idL_ne (by omega))];exact hat.2 id hid
 ·intro x hx;rcases List.mem_or_eq_of_mem_set hx with h1 | h1
  ·exact h.ok x h1
  ·subst h1; exact hc
theorem store_any (Q : SecP) (N : Nat) (V : List Ob) (i : Nat) (o o' : Ob) (A : Option Addr) (ca : Nat) (B : Option Addr) (cb : Nat) (w : World) (h : SecAt w Q N V) (hi : V[i]? = some o) (hO : ObR w o' A ca B cb) (hc : checkM o' = true) (hl : (encM o').length = (encM o).length) :
  Calls Tryz.prog 176 #[.pointer (some ⟨Q.q, 0, none⟩), .int .i64 ((i : Int) + 1), .agg (obV o' A ca B cb)] w fun e w' => e = .returned (.int .i64 0) /\ SecAt w' Q N (V.set i o') /\ Only Q.set w w':=by
 have hb:=(Below.refl w.heap.size w).alloc (Nat.le_refl _) (.cells (obV o' A ca B cb) 29);have hS0:=h.below hb;have hat:=at_ok Q N V i o _ hS0 hi;have hen:=fun (W : World) (hO : ObR W o' A ca B cb) => encode_ok o' A ca B cb W hO hc;have hes:=encM_small hc;have b0:=Blk.new w 29 (obV o' A ca B cb);have hset:=fun (W : World) (hS : SpaceAt W Q.P N (rowsV V)) ab aoff cap hA hab hcap => extSet_any Q.P N (rowsV V) i (encM o) ab aoff (encM o') cap W hS (rowsV_get hi) hl hA hab hcap;have hev:=encM_vals hO.byts.vals;have hturn:=fun (W w' : World) (hS : SecAt W Q N V) a1 a2 (D : DataW Value) a3 a4 a5 => SecAt.turn (w:=W) (w':=w') (D:=D) hS hi hc hl a1 a2 a3 a4 a5;have hlt:=h.lt;have hil:=(List.getElem?_eq_some_iff.1 hi).1;have hsm:=h.small;have hkey : keyOf Tryz.prog 3 (.int .i64 ((i : Int) + 1)) = some (idL (i + 1)):=by rw [keyI (by omega)];unfold idL;rw [Int.natCast_add]; rfl
 have hstore:=fun (W : World) (D : DataW Value) (hM : MapAt W 3 Q.t D) (hn : Maps.size D < 1000000) => hM.store law3 Tryz.underlying110 hn hkey (extO V i o);have hOb:=hO.alloc (.cells (obV o' A ca B cb) 29);unfold obV at *;unfold extO at hat hturn hstore;unfold extV at hat hset hturn hstore;rw [hl] at hset;obtain ⟨f, hf⟩ : ∃ f, f = fromR (rowsV V) i:=⟨_, rfl⟩;obtain ⟨n, hn⟩ : ∃ f, f = secs (encM o).length:=⟨_, rfl⟩;obtain ⟨p, hp⟩ : ∃ f, f = (encM o).length:=⟨_, rfl⟩;rw [<- hf, <- hn, <- hp] at hat hset hstore;rw [<- hf, <- hn, <- hp] at hturn;have hp' : p = (encM o').length:=by rw [hp, hl]
 have HA:=Lib.hid hat;have HE:=Lib.hid hen;have HS:=Lib.hid hset;have HV:=Lib.hid hev;have HT:=Lib.hid hturn;have HLT:=Lib.hid hlt;have HST:=Lib.hid hstore;have HP:=Lib.hid hp';have HO:=Lib.hid hOb;rw [<- hp'] at hes;clear hat hen hset hev hturn hlt hstore hf hn hp hp' hkey hOb h hi hO hc hl;go_enter Tryz.func176, Tryz.ntmps176;go_wp2_with fail;refine HA.out.mono ?_;rintro e w1 ⟨rfl, hb1⟩;have hb2:=(hb.trans (hb1.mono hb.size)).alloc (hb.trans (hb1.mono hb.size)).size (.cells #[.int .i64 f, .int .i64 n, .int .i64 p] 143);have hS1:=(hS0.below hb1).below ((Below.refl w1.heap.size w1).alloc (Nat.le_refl _) (.cells #[.int .i64 f, .int .i64 n, .int .i64 p] 143));have b1:=(b0.keep hb1).alloc (.cells #[.int .i64 f, .int .i64 n, .int .i64 p] 143);have HO1:=Lib.hid ((HO.out.below hb1).alloc (.cells #[.int .i64 f, .int .i64 n, .int .i64 p] 143));have x1:=Blk.new w1 143 #[.int .i64 f, .int .i64 n, .int .i64 p];have hz1 : w.heap.size < w1.heap.size:=(b0.keep hb1).lt;clear hb hS0 b0 hb1 HO HA;go_upto_region 4 with (fail);generalize w1.alloc (.cells #[.int .i64 f, .int .i64 n, .int .i64 p] 143) = W at hb2 hS1 b1 HO1 x1 ⊢;have c0:=b1.cell 0;have c1:=b1.cell 1;have c2:=b1.cell 2;have c3:=b1.cell 3;simp only [qTa, qTb, qTc] at c0 c1 c2 c3;have he:=Lib.hid (HE.out W HO1.out);go_wp2_with fail;refine he.out.mono ?_;rintro e w2 ⟨v, rfl, hown, hb3⟩;have hS2:=hS1.below hb3;have x2:=x1.keep hb3;obtain ⟨A2, k2, e2, l1, l2, y2, _⟩:=hown.reads2 HV.out;rw [<- HP.out] at e2 l1;subst e2;obtain ⟨ab, rfl, hab⟩ : ∃ ab, A2 = some ⟨ab, 0, none⟩ /\ w.heap.size <= ab:=by
  rcases hown.2 with ⟨e, _⟩ | ⟨g, cap', cur, e, hg, _⟩
  ·injection e with e1 e2 e3;exact absurd e2 (by omega)
  ·injection e with e1 e2 e3;refine ⟨g, e1, ?_⟩;have:=hb2.size;omega
 have hb4:=hb2.trans (hb3.mono hb2.size);clear hS1 x1 hown hb3 hb2 b1 c0 c1 c2 c3 he HO1;go_upto_region 7 with (fail);obtain ⟨hqt, hqP, htP⟩:=hS2.apart;have q0:=hS2.head.cell 0;have x0:=x2.cell 0;have x01:=x2.cell 1;have x02:=x2.cell 2;simp only [qTa, qTb, qTc] at q0 x0 x01 x02;have hql:=hS2.head.lt;have hxl:=x2.lt;have hxP : ¬ Q.P.set w1.heap.size:=fun e => by have:=HLT.out _ (.inr (.inr e)); omega
 have hz2:=hb4.size;have hcap2 : p <= k2 /\ k2 <= 9223372036854775807:=⟨l1, l2⟩;have habP : ¬ Q.P.set ab:=fun e => by have:=HLT.out ab (.inr (.inr e)); omega
 have habl : ab < w2.heap.size:=by obtain ⟨_, _, b', o', e1, hl', _⟩:=y2 0 _ (getElem?_eq_getElem (by have:=HP.out; omega));injection e1 with e1; injection e1 with e1; omega
 have qA : SpaceAt (w2.drew.alloc (.cells #[.int .i64 0, .int .i64 0, .int .i64 0] 143)) Q.P N (rowsV V):=(hS2.space.drew).only ((Only.refl (fun _ => False) w2.drew).alloc _) (fun _ _ h => h);have ca:=Lib.hid (HS.out (w2.drew.alloc (.cells #[.int .i64 0, .int .i64 0, .int .i64 0] 143)) qA ab 0 k2 (y2.drew.alloc _) habP hcap2);have cb':=Lib.hid (HS.out w2.drew hS2.space.drew ab 0 k2 y2.drew habP hcap2);have nA : Blk (w2.drew.alloc (.cells #[.int .i64 0, .int .i64 0, .int .i64 0] 143)) w2.heap.size 143 #[.int .i64 0, .int .i64 0, .int .i64 0]:=Blk.new w2.drew 143 _;have hnP : ¬ Q.P.set w2.heap.size:=fun e => by have:=HLT.out _ (.inr (.inr e)); omega
 have HSw:=Lib.hid hS2;obtain ⟨D, hMw, hszw, hatw⟩:=hS2.table;have HMw:=Lib.hid hMw;have HATw:=Lib.hid hatw;have hhw:=hS2.head;clear hS2 qA y2 l1 l2 hcap2 hMw hatw;go_region_held3 (fun w' => w'.cell? ⟨Q.q, 0, none⟩ = some (.pointer (some ⟨Q.P.s, 0, none⟩)) /\ w'.cell? ⟨w1.heap.size, 0, none⟩ = some (.int .i64 f) /\ w'.cell? ⟨w1.heap.size, 1, none⟩ = some (.int .i64 n) /\ w'.cell? ⟨w1.heap.size, 2, none⟩ = some (.int .i64 p))
  (first | exact Keep4.only (by assumption) hO3 ⟨by simp; omega, hqP⟩ ⟨by simp; omega, hxP⟩ ⟨by simp; omega, hxP⟩ ⟨by simp; omega, hxP⟩ | go_keep | exact Keep4.only (by assumption) (only_realloc _ _ _) ⟨by simp; omega, by dsimp only; omega⟩ ⟨by simp; omega, by dsimp only; omega⟩ ⟨by simp; omega, by dsimp only; omega⟩ ⟨by simp; omega, by dsimp only; omega⟩ | exact Keep4.only (by assumption) (only_three w3 w2.heap.size _ _ _) ⟨by dsimp only; omega, by dsimp only; omega⟩ ⟨by dsimp only; omega, by dsimp only; omega⟩ ⟨by dsimp only; omega, by dsimp only; omega⟩ ⟨by dsimp only; omega, by dsimp only; omega⟩)
  (first
   | (go_at_call 186; refine ca.out.mono ?_; rintro e w3 ⟨rfl, hSp3, hO3⟩; have nA3:=nA.only hO3 hnP; have n0:=nA3.cell 0; have n1:=nA3.cell 1; have n2:=nA3.cell 2; simp only [qTa, qTb, qTc] at n0 n1 n2; have nf:=nA3.frozen; have z3 : w2.heap.size <= w3.heap.size:=(by have:=hO3.size; simp at this; omega))
   | (go_at_call 186; refine cb'.out.mono ?_; rintro e w3 ⟨rfl, hSp3, hO3⟩; have z3 : w2.heap.size <= w3.heap.size:=hO3.size))
 ·have hqS : ¬ (Q.P.set Q.q \/ w2.heap.size <= Q.q):=by rintro (e | e); exact hqP e; omega
  have htl:=HLT.out Q.t (.inr (.inl rfl));have htS : ¬ (Q.P.set Q.t \/ w2.heap.size <= Q.t):=by rintro (e | e); exact htP e; omega
  have hOx : Only (fun g => Q.P.set g \/ w2.heap.size <= g) w2 (w3.alloc (.cells #[.int .i64 f, .int .i64 n, .int .i64 p] 143)) :=
   ((only_drew _ w2).trans (hO3.mono (fun g h => .inl h))).alloc _
  have x5:=Blk.new w3 143 #[.int .i64 f, .int .i64 n, .int .i64 p];have hSp5:=hSp3.only ((Only.refl (fun _ => False) w3).alloc (.cells #[.int .i64 f, .int .i64 n, .int .i64 p] 143)) (fun _ _ h => h);clear nA hSp3 hO3 ca cb' q0 x0 x01 x02;generalize w3.alloc (.cells #[.int .i64 f, .int .i64 n, .int .i64 p] 143) = W5 at hOx x5 hSp5 ⊢;go_upto_region 9 with (fail);have hh5:=hhw.only hOx hqS;have hM5:=HMw.out.keep hOx htS;have k1:=hh5.cell 1;have y0:=x5.cell 0;have y1':=x5.cell 1;have y2':=x5.cell 2;simp only [qTa, qTb, qTc] at k1 y0 y1' y2';obtain ⟨w6, hrun, hM6, hO6⟩:=HST.out W5.drew D (hM5.keep (only_drew (fun _ => False) W5) (fun h => h)) (by omega);have hO6' : Only (fun g => g = Q.t) W5 w6:=(only_drew _ _).trans hO6;have hh6:=hh5.only hO6' hqt;have hSp6:=hSp5.only hO6' (fun k hk e => htP (by rw [<- e]; exact hk));have hOw6 : Only Q.set w w6:=((only_of hb4 Q.set).trans (Only.shrink (T:=Q.set) hOx (fun g hg => hg.elim (fun h => .inl (.inr (.inr h))) (fun h => .inr h)))).trans (hO6'.mono (T:=Q.set) (fun g e => .inr (.inl e)));clear hh5 hM5 hSp5 hO6 hO6' hOx;have hS5:=HT.out w2 w6 HSw.out hh6 hSp6 D HMw.out hszw HATw.out hM6;clear hM6 hSp6 hh6;go_region
  go_wp2_with fail;go_ret;exact ⟨rfl, hS5, hOw6⟩
 ·have hqS : ¬ (Q.P.set Q.q \/ w2.heap.size <= Q.q):=by rintro (e | e); exact hqP e; omega
  have htl:=HLT.out Q.t (.inr (.inl rfl));have htS : ¬ (Q.P.set Q.t \/ w2.heap.size <= Q.t):=by rintro (e | e); exact htP e; omega
  have hOx : Only (fun g => Q.P.set g \/ w2.heap.size <= g) w2 (((w3.setCell ⟨w2.heap.size, 0, none⟩ (.int .i64 f)).setCell ⟨w2.heap.size, 1, none⟩ (.int .i64 n)).setCell ⟨w2.heap.size, 2, none⟩ (.int .i64 p)) :=
   (((only_drew _ w2).alloc _).trans (hO3.mono (fun g h => .inl h))).trans ((only_three w3 w2.heap.size _ _ _).mono (fun g e => .inr (by omega)))
  have x5:=nA3.set111 (.int .i64 f) (.int .i64 n) (.int .i64 p);have hSp5:=hSp3.only (only_three w3 w2.heap.size (.int .i64 f) (.int .i64 n) (.int .i64 p)) (fun k hk e => hnP (by rw [<- e]; exact hk));clear n0 n1 n2 nf nA3 nA hSp3 hO3 ca cb' q0 x0 x01 x02;generalize ((w3.setCell ⟨w2.heap.size, 0, none⟩ (.int .i64 f)).setCell ⟨w2.heap.size, 1, none⟩ (.int .i64 n)).setCell ⟨w2.heap.size, 2, none⟩ (.int .i64 p) = W5 at hOx x5 hSp5 ⊢;go_upto_region 9 with (fail);have hh5:=hhw.only hOx hqS;have hM5:=HMw.out.keep hOx htS;have k1:=hh5.cell 1;have y0:=x5.cell 0;have y1':=x5.cell 1;have y2':=x5.cell 2;simp only [qTa, qTb, qTc] at k1 y0 y1' y2';obtain ⟨w6, hrun, hM6, hO6⟩:=HST.out W5.drew D (hM5.keep (only_drew (fun _ => False) W5) (fun h => h)) (by omega);have hO6' : Only (fun g => g = Q.t) W5 w6:=(only_drew _ _).trans hO6;have hh6:=hh5.only hO6' hqt;have hSp6:=hSp5.only hO6' (fun k hk e => htP (by rw [<- e]; exact hk));have hOw6 : Only Q.set w w6:=((only_of hb4 Q.set).trans (Only.shrink (T:=Q.set) hOx (fun g hg => hg.elim (fun h => .inl (.inr (.inr h))) (fun h => .inr h)))).trans (hO6'.mono (T:=Q.set) (fun g e => .inr (.inl e)));clear hh5 hM5 hSp5 hO6 hO6' hOx;have hS5:=HT.out w2 w6 HSw.out hh6 hSp6 D HMw.out hszw HATw.out hM6;clear hM6 hSp6 hh6;go_region
  go_wp2_with fail;go_ret;exact ⟨rfl, hS5, hOw6⟩
end Go.Proofs.YtgaemfghpibeeaaGreatDoor
namespace Go.Proofs.YtgaemfghpibeeaaGreatDoor
open Go.RowKit
structure Res where
 a : Nat
 b : Nat
 kind : Int
 size : Nat
 dirty : Bool
structure Slt where
 res : Option Res
 id : Int
 refs : Int
def Slt.cells (x : Slt) : List Value:=[.pointer (x.res.map fun r => ⟨r.a, 0, none⟩), .int .i64 x.id, .int .i64 x.refs]
def sltCells (L : List Slt) : List Value:=L.flatMap Slt.cells
theorem sltCells_cons (x : Slt) (L : List Slt) : sltCells (x :: L) = .pointer (x.res.map fun r => ⟨r.a, 0, none⟩) :: .int .i64 x.id :: .int .i64 x.refs :: sltCells L:=rfl
theorem sltCells_length (L : List Slt) : (sltCells L).length = L.length * 3:=by
 induction L with
 | nil => rfl
 | cons x L ih => simp only [sltCells_cons, List.length_cons, ih]; omega
theorem sltCells_get (L : List Slt) (i : Nat) (x : Slt) (h : L[i]? = some x) :
  (sltCells L)[i * 3]? = some (.pointer (x.res.map fun r => ⟨r.a, 0, none⟩)) /\ (sltCells L)[i * 3 + 1]? = some (.int .i64 x.id) /\ (sltCells L)[i * 3 + 2]? = some (.int .i64 x.refs):=by
 induction L generalizing i with
 | nil => simp at h
 | cons y L ih =>
  cases i with
  | zero => simp at h; subst h; simp [sltCells_cons]
  | succ i =>
   simp at h;have:=ih i h;rw [sltCells_cons];have e : (i + 1) * 3 = i * 3 + 1 + 1 + 1:=by omega
   rw [e]
   simpa using this
theorem sltCells_res (L : List Slt) (i : Nat) (x : Slt) (v : Option Res) (h : L[i]? = some x) : (sltCells L).set (i * 3) (.pointer (v.map fun r => ⟨r.a, 0, none⟩)) = sltCells (L.set i { x with res:=v }):=by
 induction L generalizing i with
 | nil => simp at h
 | cons y L ih =>
  cases i with
  | zero => simp at h; subst h; simp [sltCells_cons]
  | succ i =>
   have e : (i + 1) * 3 = i * 3 + 1 + 1 + 1:=by omega
   rw [sltCells_cons, e];simp only [List.set_cons_succ, sltCells_cons];rw [ih i (by simpa using h)]
theorem sltCells_id (L : List Slt) (i : Nat) (x : Slt) (v : Int) (h : L[i]? = some x) : (sltCells L).set (i * 3 + 1) (.int .i64 v) = sltCells (L.set i { x with id:=v }):=by
 induction L generalizing i with
 | nil => simp at h
 | cons y L ih =>
  cases i with
  | zero => simp at h; subst h; simp [sltCells_cons]
  | succ i =>
   have e : (i + 1) * 3 + 1 = i * 3 + 1 + 1 + 1 + 1:=by omega
   rw [sltCells_cons, e];simp only [List.set_cons_succ, sltCells_cons];rw [ih i (by simpa using h)]
theorem sltCells_refs (L : List Slt) (i : Nat) (x : Slt) (v : Int) (h : L[i]? = some x) : (sltCells L).set (i * 3 + 2) (.int .i64 v) = sltCells (L.set i { x with refs:=v }):=by
 induction L generalizing i with
 | nil => simp at h
 | cons y L ih =>
  cases i with
  | zero => simp at h; subst h; simp [sltCells_cons]
  | succ i =>
   have e : (i + 1) * 3 + 2 = i * 3 + 2 + 1 + 1 + 1:=by omega
   rw [sltCells_cons, e];simp only [List.set_cons_succ, sltCells_cons];rw [ih i (by simpa using h)]
def resOf (sl : List Slt) (s : Nat) : Option Res:=match sl[s]? with
 | some x => x.res
 | none => none
theorem resOf_of {sl : List Slt} {s : Nat} {x : Slt} (h : sl[s]? = some x) : resOf sl s = x.res:=by unfold resOf; rw [h]
theorem resOf_set (sl : List Slt) (s : Nat) (x : Slt) (h : s < sl.length) (s' : Nat) : resOf (sl.set s x) s' = if s' = s then x.res else resOf sl s':=by
 unfold resOf;by_cases e : s' = s
 ·subst e; rw [if_pos rfl, List.getElem?_set_self h]
 ·rw [if_neg e, List.getElem?_set_ne (Ne.symm e)]
structure LmP where
 m : Nat
 Q : SecP
 H : HpP
 T : NmP
 c : Nat
 lb : Nat
 sb : Nat
structure St where
 D : List Ob
 hc : Nat
 V : Nat -> Option (List Int)
 t : Bool
 ids : List Int
 L : List Ck.Pl
 hand : Nat
 sl : List Slt
 busy : Nat
def part (p : LmP) (sl : List Slt) (i k : Nat) : Prop:=match i with
 | 0 => k = p.m
 | 1 => p.Q.set k
 | 2 => p.H.set k
 | 3 => p.T.set k
 | 4 => k = p.c \/ k = p.lb
 | 5 => k = p.sb
 | s + 6 => ∃ r, resOf sl s = some r /\ k = r.a
structure LmMem (w : World) (p : LmP) (N NW NS : Nat) (S : St) : Prop where
 head : Blk w p.m 62 #[.pointer (some ⟨p.Q.q, 0, none⟩), .pointer (some ⟨p.H.h, 0, none⟩), .pointer (some ⟨p.T.t, 0, none⟩), .pointer (some ⟨p.c, 0, none⟩), .slice (some ⟨p.sb, 0, none⟩) (NS + 1) (NS + 1), .int .i64 (S.busy : Int)]
 disk : SecAt w p.Q N S.D
 heap : HeapV w p.H NW S.hc S.V S.t
 names : ∃ hash, NmAt w p.T S.ids hash /\ NmInv NS S.ids hash
 clk : Ck.Clk w p.c p.lb S.L S.hand
 slots : Blk w p.sb 82 (sltCells S.sl).toArray
 ress : ∀ s r, resOf S.sl s = some r -> Blk w r.a 85 #[.int .i64 (r.b : Int), .int .i64 r.kind, .int .i64 (r.size : Int), .bool r.dirty]
 lenS : S.sl.length = NS + 1
 lenL : S.L.length = NS + 1
 small : NS <= 255
 apart : ∀ i j k, part p S.sl i k -> part p S.sl j k -> i = j
def LmP.set (p : LmP) (sl : List Slt) (k : Nat) : Prop:=∃ i, part p sl i k
theorem clk_only {S : Nat -> Prop} {w w' : World} {c lb : Nat} {L : List Ck.Pl} {h : Nat} (k : Ck.Clk w c lb L h) (ho : Only S w w') (h1 : ¬ S c) (h2 : ¬ S lb) : Ck.Clk w' c lb L h:=⟨k.head.only ho h1, k.body.only ho h2, k.size⟩
theorem ck_only {c lb : Nat} {w w' : World} (h : Ck.Only c lb w w') : Only (fun k => k = c \/ k = lb) w w' :=
 ⟨h.os, h.tape, h.output, h.size, fun g hg hs => h.block g hg (fun e => hs (.inl e)) (fun e => hs (.inr e))⟩
theorem LmMem.lt {w : World} {p : LmP} {N NW NS : Nat} {S : St} (h : LmMem w p N NW NS S) : ∀ k, p.set S.sl k -> k < w.heap.size:=by
 rintro k ⟨i, hi⟩;obtain ⟨hash, hn, _⟩:=h.names
 match i, hi with
 | 0, hi => cases hi; exact h.head.lt
 | 1, hi => exact h.disk.lt k hi
 | 2, hi => exact h.heap.lt k hi
 | 3, hi => exact hn.lt k hi
 | 4, hi => rcases hi with rfl | rfl; exact h.clk.head.lt; exact h.clk.body.lt
 | 5, hi => cases hi; exact h.slots.lt
 | s + 6, hi => obtain ⟨r, hr, rfl⟩:=hi; exact (h.ress s r hr).lt
theorem LmMem.only {T : Nat -> Prop} {w w' : World} {p : LmP} {N NW NS : Nat} {S : St} (h : LmMem w p N NW NS S) (ho : Only T w w') (hT : ∀ k, p.set S.sl k -> ¬ T k) : LmMem w' p N NW NS S:=by
 obtain ⟨hash, hn, hi⟩:=h.names;exact ⟨h.head.only ho (hT _ ⟨0, rfl⟩), h.disk.only ho (fun k hk => hT _ ⟨1, hk⟩), h.heap.only ho (fun k hk => hT _ ⟨2, hk⟩), ⟨hash, hn.only ho (fun k hk => hT _ ⟨3, hk⟩), hi⟩, clk_only h.clk ho (hT _ ⟨4, .inl rfl⟩) (hT _ ⟨4, .inr rfl⟩), h.slots.only ho (hT _ ⟨5, rfl⟩),
  fun s r hr => (h.ress s r hr).only ho (hT _ ⟨s + 6, r, hr, rfl⟩), h.lenS, h.lenL, h.small, h.apart⟩
theorem LmMem.below {w w' : World} {p : LmP} {N NW NS : Nat} {S : St} (h : LmMem w p N NW NS S) (hb : Below w.heap.size w w') : LmMem w' p N NW NS S:=h.only (only_of hb (fun _ => False)) (fun _ _ h => h)
section
variable {w w' : World} {p : LmP} {N NW NS : Nat} {S : St}
theorem LmMem.off (h : LmMem w p N NW NS S) {i j k : Nat} (hi : part p S.sl i k) (hj : part p S.sl j k) (hij : i ≠ j) : False:=hij (h.apart i j k hi hj)
theorem LmMem.toDisk (h : LmMem w p N NW NS S) (ho : Only p.Q.set w w') (D : List Ob) (hd : SecAt w' p.Q N D) : LmMem w' p N NW NS { S with D:=D }:=by
 obtain ⟨hash, hn, hi⟩:=h.names;have off : ∀ i k, part p S.sl i k -> i ≠ 1 -> ¬ p.Q.set k:=fun i k hk hne h1 => h.off hk (show part p S.sl 1 k from h1) hne;exact ⟨h.head.only ho (off 0 _ rfl (by decide)), hd, h.heap.only ho (fun k hk => off 2 k hk (by decide)), ⟨hash, hn.only ho (fun k hk => off 3 k hk (by decide)), hi⟩, clk_only h.clk ho (off 4 _ (.inl rfl) (by decide)) (off 4 _ (.inr rfl) (by decide)),
  h.slots.only ho (off 5 _ rfl (by decide)), fun s r hr => (h.ress s r hr).only ho (off (s + 6) _ ⟨r, hr, rfl⟩ (by omega)), h.lenS, h.lenL, h.small, h.apart⟩
theorem LmMem.toNames (h : LmMem w p N NW NS S) (ho : Only p.T.set w w') (ids hash : List Int) (hn : NmAt w' p.T ids hash) (hi : NmInv NS ids hash) : LmMem w' p N NW NS { S with ids:=ids }:=by
 have off : ∀ i k, part p S.sl i k -> i ≠ 3 -> ¬ p.T.set k:=fun i k hk hne h1 => h.off hk (show part p S.sl 3 k from h1) hne;exact ⟨h.head.only ho (off 0 _ rfl (by decide)), h.disk.only ho (fun k hk => off 1 k hk (by decide)), h.heap.only ho (fun k hk => off 2 k hk (by decide)), ⟨hash, hn, hi⟩, clk_only h.clk ho (off 4 _ (.inl rfl) (by decide)) (off 4 _ (.inr rfl) (by decide)),
  h.slots.only ho (off 5 _ rfl (by decide)), fun s r hr => (h.ress s r hr).only ho (off (s + 6) _ ⟨r, hr, rfl⟩ (by omega)), h.lenS, h.lenL, h.small, h.apart⟩
theorem LmMem.toClk (h : LmMem w p N NW NS S) (ho : Ck.Only p.c p.lb w w') (L : List Ck.Pl) (hand : Nat) (hc : Ck.Clk w' p.c p.lb L hand) (hl : L.length = NS + 1) : LmMem w' p N NW NS { S with L:=L, hand:=hand }:=by
 obtain ⟨hash, hn, hi⟩:=h.names;have ho:=ck_only ho;have off : ∀ i k, part p S.sl i k -> i ≠ 4 -> ¬ (k = p.c \/ k = p.lb):=fun i k hk hne h1 => h.off hk (show part p S.sl 4 k from h1) hne;exact ⟨h.head.only ho (off 0 _ rfl (by decide)), h.disk.only ho (fun k hk => off 1 k hk (by decide)), h.heap.only ho (fun k hk => off 2 k hk (by decide)), ⟨hash, hn.only ho (fun k hk => off 3 k hk (by decide)), hi⟩, hc,
  h.slots.only ho (off 5 _ rfl (by decide)), fun s r hr => (h.ress s r hr).only ho (off (s + 6) _ ⟨r, hr, rfl⟩ (by omega)), h.lenS, hl, h.small, h.apart⟩
theorem LmMem.toHeap (h : LmMem w p N NW NS S) (ho : Only p.H.set w w') (H : HpP) (hc : Nat) (V : Nat -> Option (List Int)) (t : Bool) (hh : HeapV w' H NW hc V t) (e : H.h = p.H.h) (hs : ∀ g, H.set g -> p.H.set g \/ w.heap.size <= g) :
  LmMem w' { p with H:=H } N NW NS { S with hc:=hc, V:=V, t:=t }:=by
 obtain ⟨hash, hn, hi⟩:=h.names;have off : ∀ i k, part p S.sl i k -> i ≠ 2 -> ¬ p.H.set k:=fun i k hk hne h1 => h.off hk (show part p S.sl 2 k from h1) hne;have same : ∀ i k, i ≠ 2 -> part { p with H:=H } S.sl i k -> part p S.sl i k:=by
  intro i k hi2 hk
  match i, hk, hi2 with
  | 0, hk, _ => exact hk
  | 1, hk, _ => exact hk
  | 3, hk, _ => exact hk
  | 4, hk, _ => exact hk
  | 5, hk, _ => exact hk
  | s + 6, hk, _ => exact hk
 refine ⟨?_, h.disk.only ho (fun k hk => off 1 k hk (by decide)), hh, ⟨hash, hn.only ho (fun k hk => off 3 k hk (by decide)), hi⟩, clk_only h.clk ho (off 4 _ (.inl rfl) (by decide)) (off 4 _ (.inr rfl) (by decide)),
  h.slots.only ho (off 5 _ rfl (by decide)), fun s r hr => (h.ress s r hr).only ho (off (s + 6) _ ⟨r, hr, rfl⟩ (by omega)), h.lenS, h.lenL, h.small, ?_⟩
 ·have:=h.head.only ho (off 0 _ rfl (by decide));rw [<- e] at this;exact this
 ·intro i j k h1 h2;by_cases i2 : i = 2
  ·by_cases j2 : j = 2
   ·omega
   ·subst i2;have h3:=same j k j2 h2;rcases hs k h1 with h4 | h4
    ·exact h.apart 2 j k h4 h3
    ·have:=h.lt k ⟨j, h3⟩;omega
  ·have h3:=same i k i2 h1;by_cases j2 : j = 2
   ·subst j2;rcases hs k h2 with h4 | h4
    ·exact h.apart i 2 k h3 h4
    ·have:=h.lt k ⟨i, h3⟩;omega
   ·exact h.apart i j k h3 (same j k j2 h2)
theorem LmMem.toBusy (h : LmMem w p N NW NS S) (b : Nat) : LmMem (w.setCell ⟨p.m, 5, none⟩ (.int .i64 (b : Int))) p N NW NS { S with busy:=b }:=by
 obtain ⟨hash, hn, hi⟩:=h.names;have ho : Only (fun k => k = p.m) w (w.setCell ⟨p.m, 5, none⟩ (.int .i64 (b : Int))):=(Only.refl (fun k => k = p.m) w).setCell (p:=⟨p.m, 5, none⟩) (.inl rfl) _;have off : ∀ i k, part p S.sl i k -> i ≠ 0 -> ¬ (k = p.m):=fun i k hk hne h1 => h.off hk (show part p S.sl 0 k from h1) hne;refine ⟨?_, h.disk.only ho (fun k hk => off 1 k hk (by decide)), h.heap.only ho (fun k hk => off 2 k hk (by decide)), ⟨hash, hn.only ho (fun k hk => off 3 k hk (by decide)), hi⟩, clk_only h.clk ho (off 4 _ (.inl rfl) (by decide)) (off 4 _ (.inr rfl) (by decide)),
  h.slots.only ho (off 5 _ rfl (by decide)), fun s r hr => (h.ress s r hr).only ho (off (s + 6) _ ⟨r, hr, rfl⟩ (by omega)), h.lenS, h.lenL, h.small, h.apart⟩
 have:=h.head.set_ 5 (.int .i64 (b : Int))
 simpa using this
end
end Go.Proofs.YtgaemfghpibeeaaGreatDoor
namespace Go.Proofs.YtgaemfghpibeeaaGreatDoor
open Go.RowKit
theorem set_same {α : Type} {l : List α} {i : Nat} {x : α} (h : l[i]? = some x) : l.set i x = l:=by
 apply List.ext_getElem?
 intro j;rw [List.getElem?_set];by_cases e : i = j
 ·subst e; rw [if_pos rfl, if_pos (List.getElem?_eq_some_iff.1 h).1, h]
 ·rw [if_neg e]
section
variable {w w' : World} {p : LmP} {N NW NS : Nat} {S : St}
theorem LmMem.look (h : LmMem w p N NW NS S) {s : Nat} {x : Slt} (hx : S.sl[s]? = some x) :
  w.cell? ⟨p.sb, s * 3, none⟩ = some (.pointer (x.res.map fun r => ⟨r.a, 0, none⟩)) /\ w.cell? ⟨p.sb, s * 3 + 1, none⟩ = some (.int .i64 x.id) /\ w.cell? ⟨p.sb, s * 3 + 2, none⟩ = some (.int .i64 x.refs):=by
 obtain ⟨e1, e2, e3⟩:=sltCells_get S.sl s x hx;exact ⟨(h.slots.cell _).trans (by simpa using e1), (h.slots.cell _).trans (by simpa using e2), (h.slots.cell _).trans (by simpa using e3)⟩
theorem LmMem.toSlots (h : LmMem w p N NW NS S) (ho : Only (fun k => k = p.sb) w w') (sl : List Slt) (hs : Blk w' p.sb 82 (sltCells sl).toArray) (hl : sl.length = NS + 1)
  (hr : ∀ s r, resOf sl s = some r -> resOf S.sl s = some r \/ (Blk w' r.a 85 #[.int .i64 (r.b : Int), .int .i64 r.kind, .int .i64 (r.size : Int), .bool r.dirty] /\ ¬ p.set S.sl r.a /\ ∀ s2 r2, resOf sl s2 = some r2 -> r2.a = r.a -> s2 = s)) :
  LmMem w' p N NW NS { S with sl:=sl }:=by
 obtain ⟨hash, hn, hi⟩:=h.names;have off : ∀ i k, part p S.sl i k -> i ≠ 5 -> ¬ (k = p.sb):=fun i k hk hne h1 => h.off hk (show part p S.sl 5 k from h1) hne;refine ⟨h.head.only ho (off 0 _ rfl (by decide)), h.disk.only ho (fun k hk => off 1 k hk (by decide)), h.heap.only ho (fun k hk => off 2 k hk (by decide)), ⟨hash, hn.only ho (fun k hk => off 3 k hk (by decide)), hi⟩,
  clk_only h.clk ho (off 4 _ (.inl rfl) (by decide)) (off 4 _ (.inr rfl) (by decide)), hs, ?_, hl, h.lenL, h.small, ?_⟩
 ·intro s r hsr;rcases hr s r hsr with h1 | h1
  ·exact (h.ress s r h1).only ho (off (s + 6) _ ⟨r, h1, rfl⟩ (by omega))
  ·exact h1.1
 ·have low : ∀ i k, part p sl i k -> part p S.sl i k \/ ∃ s r, i = s + 6 /\ resOf sl s = some r /\ k = r.a /\ ¬ p.set S.sl r.a /\ ∀ s2 r2, resOf sl s2 = some r2 -> r2.a = r.a -> s2 = s:=by
   intro i k hk
   match i, hk with
   | 0, hk => exact .inl hk
   | 1, hk => exact .inl hk
   | 2, hk => exact .inl hk
   | 3, hk => exact .inl hk
   | 4, hk => exact .inl hk
   | 5, hk => exact .inl hk
   | s + 6, hk =>
    obtain ⟨r, hsr, e⟩:=hk;rcases hr s r hsr with h1 | h1
    ·exact .inl ⟨r, h1, e⟩
    ·exact .inr ⟨s, r, rfl, hsr, e, h1.2.1, h1.2.2⟩
  intro i j k h1 h2;rcases low i k h1 with h3 | ⟨s, r, e1, e2, e3, e4, e5⟩
  ·rcases low j k h2 with h4 | ⟨s2, r2, f1, f2, f3, f4, f5⟩
   ·exact h.apart i j k h3 h4
   ·exact absurd ⟨i, f3 ▸ h3⟩ f4
  ·rcases low j k h2 with h4 | ⟨s2, r2, f1, f2, f3, f4, f5⟩
   ·exact absurd ⟨j, e3 ▸ h4⟩ e4
   ·have:=e5 s2 r2 f2 (by rw [<- f3, <- e3]);omega
theorem only_sb (w : World) (p : LmP) (i : Nat) (u : Value) : Only (fun k => k = p.sb) w (w.setCell ⟨p.sb, i, none⟩ u):=(Only.refl (fun k => k = p.sb) w).setCell (p:=⟨p.sb, i, none⟩) (.inl rfl) u
theorem LmMem.toId (h : LmMem w p N NW NS S) {s : Nat} {x : Slt} (hx : S.sl[s]? = some x) (v : Int) : LmMem (w.setCell ⟨p.sb, s * 3 + 1, none⟩ (.int .i64 v)) p N NW NS { S with sl:=S.sl.set s { x with id:=v } }:=by
 have hlt:=(List.getElem?_eq_some_iff.1 hx).1;refine h.toSlots (only_sb w p _ _) _ ?_ (by rw [length_set]; exact h.lenS) ?_
 ·have:=h.slots.set_ (s * 3 + 1) (.int .i64 v);rw [List.setIfInBounds_toArray, sltCells_id S.sl s x v hx] at this;exact this
 ·intro s2 r hr
  left
  rw [resOf_set _ _ _ hlt] at hr;by_cases e : s2 = s
  ·rw [if_pos e] at hr;rw [e, resOf_of hx]; exact hr
  ·rw [if_neg e] at hr; exact hr
theorem LmMem.toRefs (h : LmMem w p N NW NS S) {s : Nat} {x : Slt} (hx : S.sl[s]? = some x) (v : Int) : LmMem (w.setCell ⟨p.sb, s * 3 + 2, none⟩ (.int .i64 v)) p N NW NS { S with sl:=S.sl.set s { x with refs:=v } }:=by
 have hlt:=(List.getElem?_eq_some_iff.1 hx).1;refine h.toSlots (only_sb w p _ _) _ ?_ (by rw [length_set]; exact h.lenS) ?_
 ·have:=h.slots.set_ (s * 3 + 2) (.int .i64 v);rw [List.setIfInBounds_toArray, sltCells_refs S.sl s x v hx] at this;exact this
 ·intro s2 r hr
  left
  rw [resOf_set _ _ _ hlt] at hr;by_cases e : s2 = s
  ·rw [if_pos e] at hr;rw [e, resOf_of hx]; exact hr
  ·rw [if_neg e] at hr; exact hr
theorem LmMem.toGone (h : LmMem w p N NW NS S) {s : Nat} {x : Slt} (hx : S.sl[s]? = some x) : LmMem (w.setCell ⟨p.sb, s * 3, none⟩ (.pointer none)) p N NW NS { S with sl:=S.sl.set s { x with res:=none } }:=by
 have hlt:=(List.getElem?_eq_some_iff.1 hx).1;refine h.toSlots (only_sb w p _ _) _ ?_ (by rw [length_set]; exact h.lenS) ?_
 ·have:=h.slots.set_ (s * 3) (.pointer none);have e:=sltCells_res S.sl s x none hx;simp only [Option.map_none] at e;rw [List.setIfInBounds_toArray, e] at this;exact this
 ·intro s2 r hr
  left
  rw [resOf_set _ _ _ hlt] at hr;by_cases e : s2 = s
  ·rw [if_pos e] at hr; cases hr
  ·rw [if_neg e] at hr; exact hr
theorem LmMem.toHere (h : LmMem w p N NW NS S) {s : Nat} {x : Slt} (hx : S.sl[s]? = some x) (r : Res) (hr : Blk w r.a 85 #[.int .i64 (r.b : Int), .int .i64 r.kind, .int .i64 (r.size : Int), .bool r.dirty]) (hoff : ¬ p.set S.sl r.a) :
  LmMem (w.setCell ⟨p.sb, s * 3, none⟩ (.pointer (some ⟨r.a, 0, none⟩))) p N NW NS { S with sl:=S.sl.set s { x with res:=some r } }:=by
 have hlt:=(List.getElem?_eq_some_iff.1 hx).1;have hne : r.a ≠ p.sb:=fun e => hoff ⟨5, e⟩;refine h.toSlots (only_sb w p _ _) _ ?_ (by rw [length_set]; exact h.lenS) ?_
 ·have:=h.slots.set_ (s * 3) (.pointer (some ⟨r.a, 0, none⟩));have e:=sltCells_res S.sl s x (some r) hx;simp only [Option.map_some] at e;rw [List.setIfInBounds_toArray, e] at this;exact this
 ·intro s2 r2 hr2;rw [resOf_set _ _ _ hlt] at hr2;by_cases e : s2 = s
  ·rw [if_pos e] at hr2;cases hr2
   refine .inr ⟨hr.far (p:=⟨p.sb, s * 3, none⟩) hne _, hoff, ?_⟩;intro s3 r3 h3 h4;rw [resOf_set _ _ _ hlt] at h3;by_cases e3 : s3 = s
   ·rw [e3, e]
   ·rw [if_neg e3] at h3;exact absurd ⟨s3 + 6, r3, h3, h4.symm⟩ hoff
  ·rw [if_neg e] at hr2;exact .inl hr2
theorem LmMem.toDirty (h : LmMem w p N NW NS S) {s : Nat} {x : Slt} (hx : S.sl[s]? = some x) {r : Res} (hr : x.res = some r) (b : Bool) :
  LmMem (w.setCell ⟨r.a, 3, none⟩ (.bool b)) p N NW NS { S with sl:=S.sl.set s { x with res:=some { r with dirty:=b } } }:=by
 obtain ⟨hash, hn, hi⟩:=h.names;have hlt:=(List.getElem?_eq_some_iff.1 hx).1;have hres : resOf S.sl s = some r:=(resOf_of hx).trans hr;have ho : Only (fun k => k = r.a) w (w.setCell ⟨r.a, 3, none⟩ (.bool b)):=(Only.refl (fun k => k = r.a) w).setCell (p:=⟨r.a, 3, none⟩) (.inl rfl) _;have off : ∀ i k, part p S.sl i k -> i ≠ s + 6 -> ¬ (k = r.a):=fun i k hk hne h1 => h.off hk (show part p S.sl (s + 6) k from ⟨r, hres, h1⟩) hne;have hsl : sltCells (S.sl.set s { x with res:=some { r with dirty:=b } }) = sltCells S.sl:=by rw [<- sltCells_res S.sl s x (some { r with dirty:=b }) hx];have:=(sltCells_get S.sl s x hx).1;rw [hr] at this;simp only [Option.map_some] at this ⊢;exact set_same this
 refine ⟨h.head.only ho (off 0 _ rfl (by omega)), h.disk.only ho (fun k hk => off 1 k hk (by omega)), h.heap.only ho (fun k hk => off 2 k hk (by omega)), ⟨hash, hn.only ho (fun k hk => off 3 k hk (by omega)), hi⟩,
  clk_only h.clk ho (off 4 _ (.inl rfl) (by omega)) (off 4 _ (.inr rfl) (by omega)), ?_, ?_, by rw [length_set]; exact h.lenS, h.lenL, h.small, ?_⟩
 ·show Blk _ p.sb 82 (sltCells (S.sl.set s { x with res:=some { r with dirty:=b } })).toArray
  rw [hsl];exact h.slots.only ho (off 5 _ rfl (by omega))
 ·intro s2 r2 h2;rw [resOf_set _ _ _ hlt] at h2;by_cases e : s2 = s
  ·rw [if_pos e] at h2;cases h2
   have:=(h.ress s r hres).set_ 3 (.bool b)
   simpa using this
  ·rw [if_neg e] at h2;exact (h.ress s2 r2 h2).only ho (off (s2 + 6) _ ⟨r2, h2, rfl⟩ (by omega))
 ·have same : ∀ i k, part p (S.sl.set s { x with res:=some { r with dirty:=b } }) i k -> part p S.sl i k:=by
   intro i k hk
   match i, hk with
   | 0, hk => exact hk
   | 1, hk => exact hk
   | 2, hk => exact hk
   | 3, hk => exact hk
   | 4, hk => exact hk
   | 5, hk => exact hk
   | s2 + 6, hk =>
    obtain ⟨r2, h2, e2⟩:=hk;rw [resOf_set _ _ _ hlt] at h2;by_cases e : s2 = s
    ·rw [if_pos e] at h2;cases h2
     exact ⟨r, e ▸ hres, e2⟩
    ·rw [if_neg e] at h2;exact ⟨r2, h2, e2⟩
  intro i j k h1 h2;exact h.apart i j k (same i k h1) (same j k h2)
end
end Go.Proofs.YtgaemfghpibeeaaGreatDoor
namespace Go.Proofs.YtgaemfghpibeeaaGreatDoor
open Go.RowKit
def meantM (ids : List Int) (w there : Int) : Int:=if (widM w).2 = true then (widM w).1 else if w = 65534 then there else oopM (ids.getD (w / 2).toNat 0)
def lenW (kind : Int) (size : Nat) : Nat:=if kind = 2 then (size + 1) / 2 else size
def byteM (w : Int) (j : Nat) : Int:=if j % 2 = 0 then w / 256 % 256 else w % 256
structure Means (ids ws : List Int) (o v : Ob) : Prop where
 cls : v.cls = o.cls
 kind : v.kind = o.kind
 lw : v.ws.length = o.ws.length
 lb : v.bs.length = o.bs.length
 words : o.kind = 1 -> ∀ j, j < o.ws.length -> v.ws.getD j 0 = meantM ids (ws.getD j 0) (o.ws.getD j 0)
 bytes : o.kind = 2 -> ∀ j, j < o.bs.length -> v.bs.getD j 0 = byteM (ws.getD (j / 2) 0) j
def okN (NS : Nat) (y : Int) : Prop:=(0 <= y /\ y <= 65535 /\ y % 2 = 1) \/ y = 65534 \/ ∃ t : Nat, y = 2 * t /\ 1 <= t /\ t <= NS
def cntS (V : Nat -> Option (List Int)) (x : Slt) (y : Int) : Nat:=match x.res with
 | some r => if r.kind = 1 then ((V r.b).getD []).count y else 0
 | none => 0
def cnt (V : Nat -> Option (List Int)) (sl : List Slt) (y : Int) : Nat:=(sl.map fun x => cntS V x y).sum
structure Inv (NS : Nat) (S : St) (Vt : List Ob) (ext : List Int) (ex pend : Nat -> Prop) : Prop where
 lenS : S.sl.length = NS + 1
 small : NS <= 255
 lenV : Vt.length = S.D.length
 good : ∀ v ∈ Vt, checkM v = true
 ids : ∀ (s : Nat) (x : Slt), S.sl[s]? = some x -> x.id = S.ids.getD s 0
 zero : ∀ (x : Slt), S.sl[0]? = some x -> x.res = none /\ x.id = 0
 here : ∀ (s : Nat) (x : Slt) (r : Res), S.sl[s]? = some x -> x.res = some r -> ∃ (i : Nat) (o v : Ob) (ws : List Int), x.id = (i : Int) + 1 /\ S.D[i]? = some o /\ Vt[i]? = some v /\ r.kind = o.kind /\ r.size = sizeM o /\ S.V r.b = some ws /\ ws.length = lenW o.kind (sizeM o) /\ Means S.ids ws o v /\ (r.dirty = false -> v = o) /\ (o.kind = 1 -> ∀ y ∈ ws, okN NS y)
 away : ∀ (i : Nat) (o v : Ob), S.D[i]? = some o -> Vt[i]? = some v -> (∀ (s : Nat) (x : Slt), S.sl[s]? = some x -> x.id = (i : Int) + 1 -> x.res = none) -> v = o
 blocks : ∀ (s s' : Nat) (r r' : Res), resOf S.sl s = some r -> resOf S.sl s' = some r' -> r.b = r'.b -> s = s'
 held : ∀ (k : Nat) (ws : List Int), S.V k = some ws -> pend k \/ ∃ (s : Nat) (r : Res), resOf S.sl s = some r /\ r.b = k
 nopend : ∀ (s : Nat) (r : Res), resOf S.sl s = some r -> ¬ pend r.b
 refs : ∀ (s : Nat) (x : Slt), S.sl[s]? = some x -> 1 <= s -> x.refs = ((cnt S.V S.sl (2 * (s : Int)) + ext.count (2 * (s : Int)) : Nat) : Int)
 named : ∀ (s : Nat) (x : Slt), S.sl[s]? = some x -> 1 <= s -> x.id = 0 -> x.res = none /\ x.refs = 0
 used : ∀ (s : Nat) (x : Slt), S.sl[s]? = some x -> 1 <= s -> x.id ≠ 0 -> ¬ ex s -> x.res ≠ none \/ 0 < x.refs \/ s = S.busy
 idr : ∀ (s : Nat) (x : Slt), S.sl[s]? = some x -> x.id ≠ 0 -> 1 <= x.id /\ x.id < 1073741824
 clock : ∀ (s : Nat) (x : Slt) (pl : Ck.Pl), S.sl[s]? = some x -> S.L[s]? = some pl -> pl.i = x.res.isSome /\ pl.p = false
 hand : S.hand < S.L.length
 extok : ∀ y ∈ ext, okN NS y
 busy : S.busy <= NS
 count : S.hc <= NS + 2
theorem cnt_set (V : Nat -> Option (List Int)) (sl : List Slt) (s : Nat) (x x' : Slt) (y : Int) (h : sl[s]? = some x) : cnt V (sl.set s x') y + cntS V x y = cnt V sl y + cntS V x' y:=by
 unfold cnt
 induction sl generalizing s with
 | nil => simp at h
 | cons z l ih =>
  cases s with
  | zero => simp at h;subst h;simp only [List.set_cons_zero, List.map_cons, List.sum_cons];omega
  | succ s => simp at h;have:=ih s h;simp only [List.set_cons_succ, List.map_cons, List.sum_cons];omega
theorem cnt_le (V : Nat -> Option (List Int)) (sl : List Slt) (s : Nat) (x : Slt) (y : Int) (h : sl[s]? = some x) : cntS V x y <= cnt V sl y:=by have:=cnt_set V sl s x ⟨none, 0, 0⟩ y h;simp only [cntS] at this ⊢;omega
theorem cnt_same (V : Nat -> Option (List Int)) (sl : List Slt) (s : Nat) (x x' : Slt) (y : Int) (h : sl[s]? = some x) (e : x'.res = x.res) : cnt V (sl.set s x') y = cnt V sl y:=by
 have:=cnt_set V sl s x x' y h;have e2 : cntS V x' y = cntS V x y:=by unfold cntS; rw [e]
 omega
theorem resOf_same {sl : List Slt} {s : Nat} {x x' : Slt} (h : sl[s]? = some x) (e : x'.res = x.res) (s' : Nat) : resOf (sl.set s x') s' = resOf sl s':=by
 rw [resOf_set _ _ _ (List.getElem?_eq_some_iff.1 h).1];by_cases e2 : s' = s
 ·rw [if_pos e2, e2, resOf_of h, e]
 ·rw [if_neg e2]
theorem slt_set {sl : List Slt} {s s' : Nat} {x' z : Slt} (h : (sl.set s x')[s']? = some z) : (s' = s /\ z = x') \/ (s' ≠ s /\ sl[s']? = some z):=by
 rw [List.getElem?_set] at h;by_cases e : s = s'
 ·rw [if_pos e] at h;split at h
  ·cases h; exact .inl ⟨e.symm, rfl⟩
  ·cases h
 ·rw [if_neg e] at h;exact .inr ⟨Ne.symm e, h⟩
section
variable {NS : Nat} {S : St} {Vt : List Ob} {ext : List Int} {ex pend : Nat -> Prop}
theorem Inv.drop {y : Int} (h : Inv NS S Vt (y :: ext) ex pend) (hy : y % 2 = 1 \/ y = 65534) : Inv NS S Vt ext ex pend:=by refine { h with refs:=?_, extok:=fun z hz => h.extok z (List.mem_cons_of_mem _ hz) };intro s x hx h1;have hs:=(List.getElem?_eq_some_iff.1 hx).1;have:=h.lenS;have:=h.small;rw [h.refs s x hx h1, List.count_cons_of_ne];omega
end
end Go.Proofs.YtgaemfghpibeeaaGreatDoor
namespace Go.Proofs.YtgaemfghpibeeaaGreatDoor
open Go.RowKit
theorem meant_ids {NS : Nat} {ids : List Int} {s : Nat} {v y th : Int} (hy : okN NS y) (hne : y ≠ 2 * (s : Int)) : meantM (ids.set s v) y th = meantM ids y th:=by
 unfold meantM;by_cases h1 : (widM y).2 = true
 ·rw [if_pos h1, if_pos h1]
 ·rw [if_neg h1, if_neg h1];by_cases h2 : y = 65534
  ·rw [if_pos h2, if_pos h2]
  ·rw [if_neg h2, if_neg h2, getD_set, if_neg];rintro ⟨h3, _⟩;rcases hy with hy | hy | ⟨t, hy, ht1, ht2⟩
   ·apply h1
    unfold widM;rw [if_neg (by omega)]
   ·exact h2 hy
   ·omega
theorem cnt_pos {V : Nat -> Option (List Int)} {sl : List Slt} {s : Nat} {x : Slt} {r : Res} {ws : List Int} {y : Int} (hx : sl[s]? = some x) (hr : x.res = some r) (hk : r.kind = 1) (hV : V r.b = some ws) (hy : y ∈ ws) : 0 < cnt V sl y:=by
 have h1:=cnt_le V sl s x y hx;have h2 : cntS V x y = ws.count y:=by unfold cntS;rw [hr];simp only [hk, if_true, hV, Option.getD_some]
 have h3 : 0 < ws.count y:=List.count_pos_iff.2 hy;omega
section
variable {NS : Nat} {S : St} {Vt : List Ob} {ext : List Int} {ex pend : Nat -> Prop}
theorem Inv.means (h : Inv NS S Vt ext ex pend) {s : Nat} {x : Slt} (hx : S.sl[s]? = some x) (h1 : 1 <= s) (h0 : x.refs = 0) (v : Int) {s2 : Nat} {x2 : Slt} {r : Res} {o u : Ob} {ws : List Int} (hx2 : S.sl[s2]? = some x2) (hr : x2.res = some r) (hk : r.kind = o.kind)
  (hV : S.V r.b = some ws) (hl : ws.length = lenW o.kind (sizeM o)) (hm : Means S.ids ws o u) (hok : o.kind = 1 -> ∀ y ∈ ws, okN NS y) : Means (S.ids.set s v) ws o u:=by
 refine { hm with words:=fun hk1 j hj => ?_ };rw [hm.words hk1 j hj];have hjl : j < ws.length:=by rw [hl, hk1]; simpa [lenW, sizeM, hk1] using hj
 have hmem : ws.getD j 0 ∈ ws:=by rw [getD_eq_getElem?_getD, getElem?_eq_getElem hjl];exact List.getElem_mem _
 refine (meant_ids (hok hk1 _ hmem) ?_).symm;intro e;have hp:=cnt_pos hx2 hr (hk.trans hk1) hV hmem;have:=h.refs s x hx h1;rw [e] at hp;omega
theorem Inv.refDown {t : Nat} (h : Inv NS S Vt (2 * (t : Int) :: ext) ex pend) (h1 : 1 <= t) {x : Slt} (hx : S.sl[t]? = some x) :
  Inv NS { S with sl:=S.sl.set t { x with refs:=x.refs - 1 } } Vt ext (fun k => ex k \/ k = t) pend:=by
 have hrt:=h.refs t x hx h1;rw [List.count_cons_self] at hrt;have res:=resOf_same (x':={ x with refs:=x.refs - 1 }) hx rfl;have cn:=fun y => cnt_same S.V S.sl t x { x with refs:=x.refs - 1 } y hx rfl;have hlt:=(List.getElem?_eq_some_iff.1 hx).1;refine { lenS:=by rw [length_set]; exact h.lenS, small:=h.small, lenV:=h.lenV, good:=h.good, ids:=?_, zero:=?_, here:=?_, away:=?_, blocks:=?_, held:=?_, nopend:=?_, refs:=?_, named:=?_, used:=?_, idr:=?_, clock:=?_, count:=h.count, hand:=h.hand, extok:=fun z hz => h.extok z (List.mem_cons_of_mem _ hz), busy:=h.busy }
 ·intro s z hz;rcases slt_set hz with ⟨rfl, rfl⟩ | ⟨_, hz⟩
  ·exact h.ids s x hx
  ·exact h.ids s z hz
 ·intro z hz;rcases slt_set hz with ⟨e, _⟩ | ⟨_, hz⟩
  ·omega
  ·exact h.zero z hz
 ·intro s z r hz hr;rcases slt_set hz with ⟨rfl, rfl⟩ | ⟨_, hz⟩
  ·exact h.here s x r hx hr
  ·exact h.here s z r hz hr
 ·intro i o v ho hv hall;refine h.away i o v ho hv (fun s z hz hid => ?_);by_cases e : s = t
  ·subst e;have e2:=Option.some.inj (hz.symm.trans hx);rw [e2] at hid ⊢;exact hall s { x with refs:=x.refs - 1 } (List.getElem?_set_self hlt) hid
  ·exact hall s z (by rw [List.getElem?_set_ne (Ne.symm e)]; exact hz) hid
 ·intro s s' r r' hr hr';rw [res] at hr hr';exact h.blocks s s' r r' hr hr'
 ·intro k ws hk;rcases h.held k ws hk with h2 | ⟨s, r, h2, h3⟩
  ·exact .inl h2
  ·exact .inr ⟨s, r, by rw [res]; exact h2, h3⟩
 ·intro s r hr;rw [res] at hr;exact h.nopend s r hr
 ·intro s z hz hs;show z.refs = ((cnt S.V (S.sl.set t { x with refs:=x.refs - 1 }) (2 * (s : Int)) + ext.count (2 * (s : Int)) : Nat) : Int)
  rw [cn];rcases slt_set hz with ⟨rfl, rfl⟩ | ⟨hne, hz⟩
  ·show x.refs - 1 = _
   omega
  ·rw [h.refs s z hz hs, List.count_cons_of_ne];omega
 ·intro s z hz hs h0;rcases slt_set hz with ⟨rfl, rfl⟩ | ⟨_, hz⟩
  ·have:=(h.named s x hx hs h0).2;omega
  ·exact h.named s z hz hs h0
 ·intro s z hz hs h0 hex;rcases slt_set hz with ⟨rfl, rfl⟩ | ⟨_, hz⟩
  ·exact absurd (.inr rfl) hex
  ·exact h.used s z hz hs h0 (fun e => hex (.inl e))
 ·intro s z hz h0;rcases slt_set hz with ⟨rfl, rfl⟩ | ⟨_, hz⟩
  ·exact h.idr s x hx h0
  ·exact h.idr s z hz h0
 ·intro s z pl hz hp;rcases slt_set hz with ⟨rfl, rfl⟩ | ⟨_, hz⟩
  ·exact h.clock s x pl hx hp
  ·exact h.clock s z pl hz hp
end
end Go.Proofs.YtgaemfghpibeeaaGreatDoor
namespace Go.Proofs.YtgaemfghpibeeaaGreatDoor
open Go.RowKit
section
variable {NS : Nat} {S : St} {Vt : List Ob} {ext : List Int} {ex pend : Nat -> Prop}
theorem Inv.setId {s : Nat} {x : Slt} (h : Inv NS S Vt ext ex pend) (h1 : 1 <= s) (hx : S.sl[s]? = some x) (hn : x.res = none) (h0 : x.refs = 0) (hli : s < S.ids.length) (v : Int) (ex' : Nat -> Prop) (hv : v = 0 \/ (1 <= v /\ v < 1073741824 /\ ex' s)) (hex : ∀ k, k ≠ s -> ex k -> ex' k) :
  Inv NS { S with ids:=S.ids.set s v, sl:=S.sl.set s { x with id:=v } } Vt ext ex' pend:=by
 have res:=resOf_same (x':={ x with id:=v }) hx rfl;have cn:=fun y => cnt_same S.V S.sl s x { x with id:=v } y hx rfl;have hlt:=(List.getElem?_eq_some_iff.1 hx).1;refine { lenS:=by rw [length_set]; exact h.lenS, small:=h.small, lenV:=h.lenV, good:=h.good, ids:=?_, zero:=?_, here:=?_, away:=?_, blocks:=?_, held:=?_, nopend:=?_, refs:=?_, named:=?_, used:=?_, idr:=?_, clock:=?_, count:=h.count, hand:=h.hand, extok:=h.extok, busy:=h.busy }
 ·intro s2 z hz;show z.id = (S.ids.set s v).getD s2 0
  rw [getD_set];rcases slt_set hz with ⟨rfl, rfl⟩ | ⟨hne, hz⟩
  ·rw [if_pos ⟨rfl, hli⟩]
  ·rw [if_neg (fun e => hne e.1.symm)];exact h.ids s2 z hz
 ·intro z hz;rcases slt_set hz with ⟨e, _⟩ | ⟨_, hz⟩
  ·omega
  ·exact h.zero z hz
 ·intro s2 z r hz hr;rcases slt_set hz with ⟨rfl, rfl⟩ | ⟨_, hz⟩
  ·rw [hn] at hr; cases hr
  ·obtain ⟨i, o, u, ws, k1, k2, k3, k4, k5, k6, k7, k8, k9, k10⟩:=h.here s2 z r hz hr;exact ⟨i, o, u, ws, k1, k2, k3, k4, k5, k6, k7, h.means hx h1 h0 v hz hr k4 k6 k7 k8 k10, k9, k10⟩
 ·intro i o u ho hu hall;refine h.away i o u ho hu (fun s2 z hz hid => ?_);by_cases e : s2 = s
  ·subst e;have e2:=Option.some.inj (hz.symm.trans hx);rw [e2]; exact hn
  ·exact hall s2 z (by rw [List.getElem?_set_ne (Ne.symm e)]; exact hz) hid
 ·intro s2 s3 r r' hr hr';rw [res] at hr hr';exact h.blocks s2 s3 r r' hr hr'
 ·intro k ws hk;rcases h.held k ws hk with h2 | ⟨s2, r, h2, h3⟩
  ·exact .inl h2
  ·exact .inr ⟨s2, r, by rw [res]; exact h2, h3⟩
 ·intro s2 r hr;rw [res] at hr;exact h.nopend s2 r hr
 ·intro s2 z hz hs;show z.refs = ((cnt S.V (S.sl.set s { x with id:=v }) (2 * (s2 : Int)) + ext.count (2 * (s2 : Int)) : Nat) : Int)
  rw [cn];rcases slt_set hz with ⟨rfl, rfl⟩ | ⟨hne, hz⟩
  ·exact h.refs s2 x hx hs
  ·exact h.refs s2 z hz hs
 ·intro s2 z hz hs hid;rcases slt_set hz with ⟨rfl, rfl⟩ | ⟨_, hz⟩
  ·exact ⟨hn, h0⟩
  ·exact h.named s2 z hz hs hid
 ·intro s2 z hz hs hid hne;rcases slt_set hz with ⟨rfl, rfl⟩ | ⟨e, hz⟩
  ·rcases hv with hv | hv
   ·exact absurd hv hid
   ·exact absurd hv.2.2 hne
  ·exact h.used s2 z hz hs hid (fun k => hne (hex s2 e k))
 ·intro s2 z hz hid;rcases slt_set hz with ⟨rfl, rfl⟩ | ⟨_, hz⟩
  ·rcases hv with hv | hv
   ·exact absurd hv hid
   ·exact ⟨hv.1, hv.2.1⟩
  ·exact h.idr s2 z hz hid
 ·intro s2 z pl hz hp;rcases slt_set hz with ⟨rfl, rfl⟩ | ⟨_, hz⟩
  ·exact h.clock s2 x pl hx hp
  ·exact h.clock s2 z pl hz hp
theorem Inv.keep {s : Nat} {x : Slt} (h : Inv NS S Vt ext (fun k => ex k \/ k = s) pend) (hx : S.sl[s]? = some x) (hk : x.res ≠ none \/ 0 < x.refs \/ s = S.busy \/ x.id = 0) : Inv NS S Vt ext ex pend:=by
 refine { h with used:=?_ };intro s2 z hz hs hid hne;by_cases e : s2 = s
 ·subst e;have e2:=Option.some.inj (hz.symm.trans hx);rw [e2] at hid ⊢;rcases hk with hk | hk | hk | hk
  ·exact .inl hk
  ·exact .inr (.inl hk)
  ·exact .inr (.inr hk)
  ·exact absurd hk hid
 ·exact h.used s2 z hz hs hid (fun hh => hh.elim hne e)
theorem Inv.back {s : Nat} {x : Slt} {r : Res} {i : Nat} {v : Ob} (h : Inv NS S Vt ext ex pend) (hx : S.sl[s]? = some x) (hr : x.res = some r) (hid : x.id = (i : Int) + 1) (hv : Vt[i]? = some v) (hd : ∀ s s', S.ids.getD s 0 = S.ids.getD s' 0 -> S.ids.getD s 0 ≠ 0 -> s = s') :
  Inv NS { S with D:=S.D.set i v, sl:=S.sl.set s { x with res:=some { r with dirty:=false } } } Vt ext ex pend:=by
 have hlt:=(List.getElem?_eq_some_iff.1 hx).1;have hil : i < S.D.length:=by rw [<- h.lenV]; exact (List.getElem?_eq_some_iff.1 hv).1
 have res : ∀ s2 r2, resOf (S.sl.set s { x with res:=some { r with dirty:=false } }) s2 = some r2 -> ∃ r3, resOf S.sl s2 = some r3 /\ r3.b = r2.b /\ r3.kind = r2.kind:=by
  intro s2 r2 h2;rw [resOf_set _ _ _ hlt] at h2;by_cases e : s2 = s
  ·rw [if_pos e] at h2;cases h2
   exact ⟨r, by rw [e, resOf_of hx]; exact hr, rfl, rfl⟩
  ·rw [if_neg e] at h2;exact ⟨r2, h2, rfl, rfl⟩
 have cn : ∀ y, cnt S.V (S.sl.set s { x with res:=some { r with dirty:=false } }) y = cnt S.V S.sl y:=by
  intro y;have:=cnt_set S.V S.sl s x { x with res:=some { r with dirty:=false } } y hx;have e2 : cntS S.V { x with res:=some { r with dirty:=false } } y = cntS S.V x y:=by unfold cntS; rw [hr]
  omega
 refine { lenS:=by rw [length_set]; exact h.lenS, small:=h.small, lenV:=by rw [length_set]; exact h.lenV, good:=h.good, ids:=?_, zero:=?_, here:=?_, away:=?_, blocks:=?_, held:=?_, nopend:=?_, refs:=?_, named:=?_, used:=?_, idr:=?_, clock:=?_, count:=h.count, hand:=h.hand, extok:=h.extok, busy:=h.busy }
 ·intro s2 z hz;rcases slt_set hz with ⟨rfl, rfl⟩ | ⟨hne, hz⟩
  ·exact h.ids s2 x hx
  ·exact h.ids s2 z hz
 ·intro z hz;rcases slt_set hz with ⟨e, rfl⟩ | ⟨_, hz⟩
  ·subst e;have:=(h.zero x hx).1;rw [hr] at this; cases this
  ·exact h.zero z hz
 ·intro s2 z r2 hz hr2;rcases slt_set hz with ⟨rfl, rfl⟩ | ⟨hne, hz0⟩
  ·cases hr2
   obtain ⟨i2, o, u, ws, k1, k2, k3, k4, k5, k6, k7, k8, k9, k10⟩:=h.here s2 x r hx hr;have ei : i2 = i:=by have:=k1.symm.trans hid; omega
   subst ei;have eu:=Option.some.inj (k3.symm.trans hv);subst eu;have hsz : sizeM u = sizeM o:=by unfold sizeM; rw [k8.kind, k8.lw, k8.lb]
   refine ⟨i2, u, u, ws, k1, List.getElem?_set_self hil, hv, by rw [k8.kind]; exact k4, by rw [hsz]; exact k5, k6, by rw [hsz, k8.kind]; exact k7, ⟨rfl, rfl, rfl, rfl, ?_, ?_⟩, fun _ => rfl, fun hk => k10 (by rw [<- k8.kind]; exact hk)⟩
   ·intro hk j hj;have hw:=k8.words (by rw [<- k8.kind]; exact hk) j (by rw [<- k8.lw]; exact hj);unfold meantM at hw ⊢;split at hw
    ·next c => rw [if_pos c]; exact hw
    ·next c =>
     rw [if_neg c];split at hw
     ·next c2 => rw [if_pos c2]
     ·next c2 => rw [if_neg c2]; exact hw
   ·intro hk j hj;exact k8.bytes (by rw [<- k8.kind]; exact hk) j (by rw [<- k8.lb]; exact hj)
  ·obtain ⟨i2, o, u, ws, k1, k2, k3, k4, k5, k6, k7, k8, k9, k10⟩:=h.here s2 z r2 hz0 hr2;by_cases ei : i2 = i
   ·subst ei;exfalso;apply hne
    have g1:=h.ids s2 z hz0;have g2:=h.ids s x hx;exact hd s2 s (by rw [<- g1, <- g2, k1, hid]) (by rw [<- g1, k1]; omega)
   ·exact ⟨i2, o, u, ws, k1, by rw [List.getElem?_set_ne (Ne.symm ei)]; exact k2, k3, k4, k5, k6, k7, k8, k9, k10⟩
 ·intro i2 o u ho hu hall;by_cases ei : i2 = i
  ·subst ei;rw [List.getElem?_set_self hil] at ho;cases ho
   exact Option.some.inj (hu.symm.trans hv)
  ·rw [List.getElem?_set_ne (Ne.symm ei)] at ho;refine h.away i2 o u ho hu (fun s2 z hz hid2 => ?_);by_cases e : s2 = s
   ·subst e;have e2:=Option.some.inj (hz.symm.trans hx);rw [e2, hid] at hid2;omega
   ·exact hall s2 z (by rw [List.getElem?_set_ne (Ne.symm e)]; exact hz) hid2
 ·intro s2 s3 r2 r3 h2 h3 hb;obtain ⟨q2, e2, f2, _⟩:=res s2 r2 h2;obtain ⟨q3, e3, f3, _⟩:=res s3 r3 h3;exact h.blocks s2 s3 q2 q3 e2 e3 (by rw [f2, f3]; exact hb)
 ·intro k ws hk;rcases h.held k ws hk with h2 | ⟨s2, r2, h2, h3⟩
  ·exact .inl h2
  ·right
   by_cases e : s2 = s
   ·refine ⟨s, { r with dirty:=false }, by rw [resOf_set _ _ _ hlt, if_pos rfl], ?_⟩;subst e;rw [resOf_of hx, hr] at h2;cases h2
    exact h3
   ·exact ⟨s2, r2, by rw [resOf_set _ _ _ hlt, if_neg e]; exact h2, h3⟩
 ·intro s2 r2 h2;obtain ⟨q2, e2, f2, _⟩:=res s2 r2 h2;rw [<- f2];exact h.nopend s2 q2 e2
 ·intro s2 z hz hs;show z.refs = ((cnt S.V (S.sl.set s { x with res:=some { r with dirty:=false } }) (2 * (s2 : Int)) + ext.count (2 * (s2 : Int)) : Nat) : Int)
  rw [cn];rcases slt_set hz with ⟨rfl, rfl⟩ | ⟨hne, hz⟩
  ·exact h.refs s2 x hx hs
  ·exact h.refs s2 z hz hs
 ·intro s2 z hz hs h0;rcases slt_set hz with ⟨rfl, rfl⟩ | ⟨hne, hz⟩
  ·have:=(h.named s2 x hx hs h0).1;rw [hr] at this; cases this
  ·exact h.named s2 z hz hs h0
 ·intro s2 z hz hs h0 hne;rcases slt_set hz with ⟨rfl, rfl⟩ | ⟨_, hz⟩
  ·exact .inl (by simp)
  ·exact h.used s2 z hz hs h0 hne
 ·intro s2 z hz h0;rcases slt_set hz with ⟨rfl, rfl⟩ | ⟨_, hz⟩
  ·exact h.idr s2 x hx h0
  ·exact h.idr s2 z hz h0
 ·intro s2 z pl hz hp;rcases slt_set hz with ⟨rfl, rfl⟩ | ⟨_, hz⟩
  ·have:=h.clock s2 x pl hx hp;rw [hr] at this;exact this
  ·exact h.clock s2 z pl hz hp
end
end Go.Proofs.YtgaemfghpibeeaaGreatDoor
namespace Go.Proofs.YtgaemfghpibeeaaGreatDoor
open Go.RowKit
theorem cnt_congr {V V' : Nat -> Option (List Int)} {sl : List Slt} {y : Int} (h : ∀ (s : Nat) (r : Res), resOf sl s = some r -> V' r.b = V r.b) : cnt V' sl y = cnt V sl y:=by
 unfold cnt
 congr 1;apply List.map_congr_left
 intro x hx;obtain ⟨s, hs⟩:=List.getElem?_of_mem hx;unfold cntS;cases hr : x.res with
 | none => rfl
 | some r => have:=h s r ((resOf_of hs).trans hr);simp only [this]
section
variable {NS : Nat} {S : St} {Vt : List Ob} {ext : List Int} {ex pend : Nat -> Prop}
theorem Inv.evict {s : Nat} {x : Slt} {r : Res} {ws : List Int} (h : Inv NS S Vt ext ex pend) (hx : S.sl[s]? = some x) (hr : x.res = some r) (hd : r.dirty = false) (hV : S.V r.b = some ws) (hL : S.L.length = NS + 1) :
  Inv NS { S with V:=updV S.V r.b none, t:=false, L:=S.L.set s ⟨false, false, false⟩, sl:=S.sl.set s { x with res:=none } } Vt ((if r.kind = 1 then ws else []) ++ ext) (fun k => ex k \/ k = s) pend:=by
 have hlt:=(List.getElem?_eq_some_iff.1 hx).1;have hres : resOf S.sl s = some r:=(resOf_of hx).trans hr;have hs1 : 1 <= s:=by
  rcases Nat.eq_zero_or_pos s with e | e
  ·subst e;have:=(h.zero x hx).1;rw [hr] at this; cases this
  ·exact e
 obtain ⟨i, o, v, ws2, k1, k2, k3, k4, k5, k6, k7, k8, k9, k10⟩:=h.here s x r hx hr;have ew : ws2 = ws:=Option.some.inj (k6.symm.trans hV);subst ew;have res : ∀ s2 r2, resOf (S.sl.set s { x with res:=none }) s2 = some r2 -> s2 ≠ s /\ resOf S.sl s2 = some r2 /\ r2.b ≠ r.b:=by
  intro s2 r2 h2;rw [resOf_set _ _ _ hlt] at h2;by_cases e : s2 = s
  ·rw [if_pos e] at h2; cases h2
  ·rw [if_neg e] at h2;exact ⟨e, h2, fun e2 => e (h.blocks s2 s r2 r h2 hres e2)⟩
 have cn : ∀ y, cnt (updV S.V r.b none) (S.sl.set s { x with res:=none }) y + (if r.kind = 1 then ws2 else []).count y = cnt S.V S.sl y:=by
  intro y;have e1 : cnt (updV S.V r.b none) (S.sl.set s { x with res:=none }) y = cnt S.V (S.sl.set s { x with res:=none }) y:=by refine cnt_congr (fun s2 r2 h2 => ?_);unfold updV;rw [if_neg (res s2 r2 h2).2.2]
  have e2:=cnt_set S.V S.sl s x { x with res:=none } y hx;have e3 : cntS S.V x y = (if r.kind = 1 then ws2 else []).count y:=by
   unfold cntS;rw [hr];by_cases hk : r.kind = 1
   ·simp only [hk, if_true, hV, Option.getD_some]
   ·simp only [hk, if_false, List.count_nil]
  have e4 : cntS S.V { x with res:=none } y = 0:=rfl;omega
 refine { lenS:=by rw [length_set]; exact h.lenS, small:=h.small, lenV:=h.lenV, good:=h.good, ids:=?_, zero:=?_, here:=?_, away:=?_, blocks:=?_, held:=?_, nopend:=?_, refs:=?_, named:=?_, used:=?_, idr:=?_, clock:=?_, count:=h.count, hand:=by rw [length_set]; exact h.hand, extok:=?_, busy:=h.busy }
 ·intro s2 z hz;rcases slt_set hz with ⟨rfl, rfl⟩ | ⟨hne, hz0⟩
  ·exact h.ids s2 x hx
  ·exact h.ids s2 z hz0
 ·intro z hz;rcases slt_set hz with ⟨e, rfl⟩ | ⟨_, hz0⟩
  ·omega
  ·exact h.zero z hz0
 ·intro s2 z r2 hz hr2;rcases slt_set hz with ⟨rfl, rfl⟩ | ⟨hne, hz0⟩
  ·cases hr2
  ·obtain ⟨i2, o2, u2, w2, g1, g2, g3, g4, g5, g6, g7, g8, g9, g10⟩:=h.here s2 z r2 hz0 hr2;refine ⟨i2, o2, u2, w2, g1, g2, g3, g4, g5, ?_, g7, g8, g9, g10⟩;show updV S.V r.b none r2.b = some w2
   unfold updV;rw [if_neg (fun e2 => hne (h.blocks s2 s r2 r ((resOf_of hz0).trans hr2) hres e2))];exact g6
 ·intro i2 o2 u2 ho hu hall;by_cases ei : i2 = i
  ·subst ei;have e1:=Option.some.inj (k2.symm.trans ho);have e2:=Option.some.inj (k3.symm.trans hu);rw [<- e1, <- e2];exact k9 hd
  ·refine h.away i2 o2 u2 ho hu (fun s2 z hz hid2 => ?_);by_cases e : s2 = s
   ·subst e;have e2:=Option.some.inj (hz.symm.trans hx);rw [e2, k1] at hid2;omega
   ·exact hall s2 z (by rw [List.getElem?_set_ne (Ne.symm e)]; exact hz) hid2
 ·intro s2 s3 r2 r3 h2 h3 hb;exact h.blocks s2 s3 r2 r3 (res s2 r2 h2).2.1 (res s3 r3 h3).2.1 hb
 ·intro k w2 hk;have hk2 : updV S.V r.b none k = some w2:=hk;unfold updV at hk2;by_cases e : k = r.b
  ·rw [if_pos e] at hk2; cases hk2
  ·rw [if_neg e] at hk2;rcases h.held k w2 hk2 with h2 | ⟨s2, r2, h2, h3⟩
   ·exact .inl h2
   ·refine .inr ⟨s2, r2, ?_, h3⟩;rw [resOf_set _ _ _ hlt, if_neg]
    ·exact h2
    ·rintro rfl;rw [hres] at h2;cases h2
     exact e h3.symm
 ·intro s2 r2 h2;exact h.nopend s2 r2 (res s2 r2 h2).2.1
 ·intro s2 z hz hs;show z.refs = ((cnt (updV S.V r.b none) (S.sl.set s { x with res:=none }) (2 * (s2 : Int)) + ((if r.kind = 1 then ws2 else []) ++ ext).count (2 * (s2 : Int)) : Nat) : Int)
  have hc:=cn (2 * (s2 : Int));rw [List.count_append];rcases slt_set hz with ⟨rfl, rfl⟩ | ⟨hne, hz0⟩
  ·have:=h.refs s2 x hx hs;show x.refs = _
   omega
  ·have:=h.refs s2 z hz0 hs;omega
 ·intro s2 z hz hs h0;rcases slt_set hz with ⟨rfl, rfl⟩ | ⟨hne, hz0⟩
  ·exact ⟨rfl, (h.named s2 x hx hs h0).2⟩
  ·exact h.named s2 z hz0 hs h0
 ·intro s2 z hz hs h0 hne;rcases slt_set hz with ⟨rfl, rfl⟩ | ⟨_, hz0⟩
  ·exact absurd (.inr rfl) hne
  ·exact h.used s2 z hz0 hs h0 (fun e => hne (.inl e))
 ·intro s2 z hz h0;rcases slt_set hz with ⟨rfl, rfl⟩ | ⟨_, hz0⟩
  ·exact h.idr s2 x hx h0
  ·exact h.idr s2 z hz0 h0
 ·intro s2 z pl hz hp;have hp2 : (S.L.set s ⟨false, false, false⟩)[s2]? = some pl:=hp;rcases slt_set hz with ⟨rfl, rfl⟩ | ⟨hne, hz0⟩
  ·rw [List.getElem?_set_self (by rw [hL, <- h.lenS]; exact hlt)] at hp2;cases hp2
   exact ⟨rfl, rfl⟩
  ·rw [List.getElem?_set_ne (Ne.symm hne)] at hp2;exact h.clock s2 z pl hz0 hp2
 ·intro y hy;rcases List.mem_append.1 hy with hy | hy
  ·split at hy
   ·next hk => exact k10 (by rw [<- k4]; exact hk) y hy
   ·cases hy
  ·exact h.extok y hy
theorem Inv.ticks (h : Inv NS S Vt ext ex pend) (L : List Ck.Pl) (hand : Nat) (hh : hand < L.length) (hsame : ∀ (s : Nat) (pl : Ck.Pl), L[s]? = some pl -> ∃ pl0, S.L[s]? = some pl0 /\ pl.i = pl0.i /\ pl.p = pl0.p) :
  Inv NS { S with L:=L, hand:=hand } Vt ext ex pend:=by
 refine { h with clock:=?_, hand:=hh };intro s x pl hx hp;obtain ⟨pl0, h1, h2, h3⟩:=hsame s pl hp;obtain ⟨h4, h5⟩:=h.clock s x pl0 hx h1;exact ⟨h2.trans h4, h3.trans h5⟩
theorem Inv.toBusy (h : Inv NS S Vt ext ex pend) (b : Nat) (hb : b <= NS) (ex' : Nat -> Prop) (hex : ∀ k, ex k -> k ≠ b -> ex' k) (hold : S.busy ≠ 0 -> S.busy ≠ b -> ex' S.busy) : Inv NS { S with busy:=b } Vt ext ex' pend:=by
 refine { h with used:=?_, busy:=hb };intro s x hx hs h0 hne;show x.res ≠ none \/ 0 < x.refs \/ s = b
 by_cases e : s = b
 ·exact .inr (.inr e)
 ·by_cases he : ex s
  ·exact absurd (hex s he e) hne
  ·rcases h.used s x hx hs h0 he with h1 | h1 | h1
   ·exact .inl h1
   ·exact .inr (.inl h1)
   ·exact absurd (by rw [h1]; exact hold (by omega) (by rw [<- h1]; exact e)) hne
end
end Go.Proofs.YtgaemfghpibeeaaGreatDoor
namespace Go.Proofs.YtgaemfghpibeeaaGreatDoor
open Go.RowKit
theorem resOf_some {sl : List Slt} {s : Nat} {r : Res} (h : resOf sl s = some r) : ∃ x, sl[s]? = some x /\ x.res = some r:=by
 unfold resOf at h;cases hx : sl[s]? with
 | none => rw [hx] at h; cases h
 | some x => rw [hx] at h; exact ⟨x, rfl, h⟩
theorem getD_set_self {l : List Int} {j : Nat} (h : j < l.length) (v : Int) : (l.set j v).getD j 0 = v:=by rw [getD_set, if_pos ⟨rfl, h⟩]
theorem getD_set_ne {l : List Int} {j k : Nat} (h : j ≠ k) (v : Int) : (l.set j v).getD k 0 = l.getD k 0:=by rw [getD_set, if_neg (fun e => h e.1)]
theorem count_set (l : List Int) (j : Nat) (y z : Int) (h : j < l.length) : (l.set j y).count z + (if l.getD j 0 = z then 1 else 0) = l.count z + (if y = z then 1 else 0):=by
 induction l generalizing j with
 | nil => simp at h
 | cons a l ih =>
  cases j with
  | zero => simp only [List.set_cons_zero, List.count_cons, List.getD_cons_zero, beq_iff_eq];omega
  | succ j => have:=ih j (by simpa using h);simp only [List.set_cons_succ, List.count_cons, List.getD_cons_succ, beq_iff_eq];omega
section
variable {NS : Nat} {S : St} {Vt : List Ob} {ext : List Int} {ex pend : Nat -> Prop}
theorem Inv.resV (h : Inv NS S Vt ext ex pend) {s : Nat} {r : Res} (hr : resOf S.sl s = some r) : ∃ ws, S.V r.b = some ws:=by obtain ⟨x, hx, hxr⟩:=resOf_some hr;obtain ⟨_, _, _, ws, _, _, _, _, _, h6, _⟩:=h.here s x r hx hxr;exact ⟨ws, h6⟩
theorem Inv.alloc (h : Inv NS S Vt ext ex pend) (k : Nat) (ws : List Int) (hk : ∀ s r, resOf S.sl s = some r -> r.b ≠ k) (hc : Nat) (t : Bool) (hcc : hc <= NS + 2) :
  Inv NS { S with hc:=hc, V:=updV S.V k (some ws), t:=t } Vt ext ex (fun j => pend j \/ j = k):=by
 have up : ∀ s r, resOf S.sl s = some r -> updV S.V k (some ws) r.b = S.V r.b:=fun s r hr => by unfold updV;rw [if_neg (hk s r hr)]
 refine { h with here:=?_, held:=?_, nopend:=?_, refs:=?_, count:=hcc }
 ·intro s x r hx hr;obtain ⟨i, o, v, ws2, k1, k2, k3, k4, k5, k6, k7⟩:=h.here s x r hx hr;exact ⟨i, o, v, ws2, k1, k2, k3, k4, k5, (up s r ((resOf_of hx).trans hr)).trans k6, k7⟩
 ·intro j ws2 hj;have hj2 : updV S.V k (some ws) j = some ws2:=hj;unfold updV at hj2;by_cases e : j = k
  ·exact .inl (.inr e)
  ·rw [if_neg e] at hj2;exact (h.held j ws2 hj2).imp .inl id
 ·rintro s r hr (h1 | h1)
  ·exact h.nopend s r hr h1
  ·exact hk s r hr h1
 ·intro s x hx hs;show x.refs = ((cnt (updV S.V k (some ws)) S.sl (2 * (s : Int)) + ext.count (2 * (s : Int)) : Nat) : Int)
  rw [cnt_congr up];exact h.refs s x hx hs
theorem Inv.arrive {s i : Nat} {x : Slt} {r : Res} {o : Ob} {ws : List Int} (h : Inv NS S Vt ext ex (fun j => pend j \/ j = r.b)) (hs : 1 <= s) (hx : S.sl[s]? = some x) (hn : x.res = none) (hid : x.id = (i : Int) + 1) (ho : S.D[i]? = some o) (hk : r.kind = o.kind) (hz : r.size = sizeM o) (hV : S.V r.b = some ws)
  (hl : ws.length = lenW o.kind (sizeM o)) (hm : Means S.ids ws o o) (hok : ∀ y ∈ ws, o.kind = 1 -> (0 <= y /\ y <= 65535 /\ y % 2 = 1) \/ y = 65534) (hnp : ¬ pend r.b) (hd : ∀ s s', S.ids.getD s 0 = S.ids.getD s' 0 -> S.ids.getD s 0 ≠ 0 -> s = s') (hL : S.L.length = NS + 1) (t : Bool) :
  Inv NS { S with L:=S.L.set s ⟨true, t, false⟩, sl:=S.sl.set s { x with res:=some r } } Vt ext ex pend:=by
 have hlt:=(List.getElem?_eq_some_iff.1 hx).1;have hlS:=h.lenS;have hNS:=h.small;have hun : ∀ (s2 : Nat) (z : Slt), S.sl[s2]? = some z -> z.id = (i : Int) + 1 -> s2 = s:=fun s2 z hz hzi => by have g1:=h.ids s2 z hz;have g2:=h.ids s x hx;exact hd s2 s (by rw [<- g1, <- g2, hid, hzi]) (by rw [<- g1, hzi]; omega)
 have hvl : i < Vt.length:=by rw [h.lenV]; exact (List.getElem?_eq_some_iff.1 ho).1
 have hv : Vt[i]? = some o:=by
  have h1 : Vt[i]? = some Vt[i]:=getElem?_eq_getElem hvl;have:=h.away i o _ ho h1 (fun s2 z hz hzi => by have e:=hun s2 z hz hzi;subst e;have e2:=Option.some.inj (hz.symm.trans hx);rw [e2]; exact hn)
  rw [h1, this]
 have res : ∀ s2 r2, resOf (S.sl.set s { x with res:=some r }) s2 = some r2 -> (s2 = s /\ r2 = r) \/ (s2 ≠ s /\ resOf S.sl s2 = some r2 /\ r2.b ≠ r.b):=by
  intro s2 r2 h2;rw [resOf_set _ _ _ hlt] at h2;by_cases e : s2 = s
  ·rw [if_pos e] at h2; cases h2; exact .inl ⟨e, rfl⟩
  ·rw [if_neg e] at h2;exact .inr ⟨e, h2, fun e2 => h.nopend s2 r2 h2 (.inr e2)⟩
 have cn : ∀ s2 : Nat, s2 <= NS -> cnt S.V (S.sl.set s { x with res:=some r }) (2 * (s2 : Int)) = cnt S.V S.sl (2 * (s2 : Int)):=by
  intro s2 hs2;have e1:=cnt_set S.V S.sl s x { x with res:=some r } (2 * (s2 : Int)) hx;have e2 : cntS S.V x (2 * (s2 : Int)) = 0:=by unfold cntS; rw [hn]
  have e3 : cntS S.V { x with res:=some r } (2 * (s2 : Int)) = 0:=by
   unfold cntS;simp only;by_cases hk1 : r.kind = 1
   ·rw [if_pos hk1, hV, Option.getD_some, List.count_eq_zero];intro hmem;have:=hok _ hmem (hk.symm.trans hk1);omega
   ·rw [if_neg hk1]
  omega
 refine { lenS:=by rw [length_set]; exact h.lenS, small:=h.small, lenV:=h.lenV, good:=h.good, ids:=?_, zero:=?_, here:=?_, away:=?_, blocks:=?_, held:=?_, nopend:=?_, refs:=?_, named:=?_, used:=?_, idr:=?_, clock:=?_, count:=h.count, hand:=by rw [length_set]; exact h.hand, extok:=h.extok, busy:=h.busy }
 ·intro s2 z hz;rcases slt_set hz with ⟨rfl, rfl⟩ | ⟨hne, hz0⟩
  ·exact h.ids s2 x hx
  ·exact h.ids s2 z hz0
 ·intro z hz;rcases slt_set hz with ⟨e, rfl⟩ | ⟨_, hz0⟩
  ·omega
  ·exact h.zero z hz0
 ·intro s2 z r2 hz1 hr2;rcases slt_set hz1 with ⟨rfl, rfl⟩ | ⟨hne, hz0⟩
  ·cases hr2
   exact ⟨i, o, o, ws, hid, ho, hv, hk, hz, hV, hl, hm, fun _ => rfl, fun hk1 y hy => (hok y hy hk1).imp id .inl⟩
  ·exact h.here s2 z r2 hz0 hr2
 ·intro i2 o2 u2 ho2 hu hall;by_cases ei : i2 = i
  ·subst ei;have e1:=Option.some.inj (ho.symm.trans ho2);have e2:=Option.some.inj (hv.symm.trans hu);rw [<- e1, <- e2]
  ·refine h.away i2 o2 u2 ho2 hu (fun s2 z hz hid2 => ?_);by_cases e : s2 = s
   ·subst e;have e2:=Option.some.inj (hz.symm.trans hx);rw [e2, hid] at hid2;omega
   ·exact hall s2 z (by rw [List.getElem?_set_ne (Ne.symm e)]; exact hz) hid2
 ·intro s2 s3 r2 r3 h2 h3 hb;rcases res s2 r2 h2 with ⟨e2, f2⟩ | ⟨e2, g2, f2⟩
  ·rcases res s3 r3 h3 with ⟨e3, f3⟩ | ⟨e3, g3, f3⟩
   ·rw [e2, e3]
   ·rw [f2] at hb; exact absurd hb.symm f3
  ·rcases res s3 r3 h3 with ⟨e3, f3⟩ | ⟨e3, g3, f3⟩
   ·rw [f3] at hb; exact absurd hb f2
   ·exact h.blocks s2 s3 r2 r3 g2 g3 hb
 ·intro k w2 hk2;rcases h.held k w2 hk2 with (h2 | h2) | ⟨s2, r2, h2, h3⟩
  ·exact .inl h2
  ·exact .inr ⟨s, r, by rw [resOf_set _ _ _ hlt, if_pos rfl], h2.symm⟩
  ·refine .inr ⟨s2, r2, ?_, h3⟩;rw [resOf_set _ _ _ hlt, if_neg]
   ·exact h2
   ·rintro rfl;rw [resOf_of hx, hn] at h2;cases h2
 ·intro s2 r2 h2;rcases res s2 r2 h2 with ⟨e2, f2⟩ | ⟨e2, g2, f2⟩
  ·rw [f2]; exact hnp
  ·exact fun hp => h.nopend s2 r2 g2 (.inl hp)
 ·intro s2 z hz hs2;show z.refs = ((cnt S.V (S.sl.set s { x with res:=some r }) (2 * (s2 : Int)) + ext.count (2 * (s2 : Int)) : Nat) : Int)
  have hlz:=(List.getElem?_eq_some_iff.1 hz).1;rw [length_set] at hlz;rw [cn s2 (by omega)];rcases slt_set hz with ⟨rfl, rfl⟩ | ⟨hne, hz0⟩
  ·exact h.refs s2 x hx hs2
  ·exact h.refs s2 z hz0 hs2
 ·intro s2 z hz hs2 h0;rcases slt_set hz with ⟨rfl, rfl⟩ | ⟨hne, hz0⟩
  ·have h1 : x.id = 0:=h0;omega
  ·exact h.named s2 z hz0 hs2 h0
 ·intro s2 z hz hs2 h0 hne;rcases slt_set hz with ⟨rfl, rfl⟩ | ⟨_, hz0⟩
  ·exact .inl (by simp)
  ·exact h.used s2 z hz0 hs2 h0 hne
 ·intro s2 z hz h0;rcases slt_set hz with ⟨rfl, rfl⟩ | ⟨_, hz0⟩
  ·exact h.idr s2 x hx h0
  ·exact h.idr s2 z hz0 h0
 ·intro s2 z pl hz hp;have hp2 : (S.L.set s ⟨true, t, false⟩)[s2]? = some pl:=hp;rcases slt_set hz with ⟨rfl, rfl⟩ | ⟨hne, hz0⟩
  ·rw [List.getElem?_set_self (by rw [hL, <- h.lenS]; exact hlt)] at hp2;cases hp2
   exact ⟨rfl, rfl⟩
  ·rw [List.getElem?_set_ne (Ne.symm hne)] at hp2;exact h.clock s2 z pl hz0 hp2
theorem Inv.more (h : Inv NS S Vt ext ex pend) (o : Ob) (hc : checkM o = true) : Inv NS { S with D:=S.D ++ [o] } (Vt ++ [o]) ext ex pend:=by
 have hlV:=h.lenV;refine { h with lenV:=by simp [h.lenV], good:=?_, here:=?_, away:=?_ }
 ·intro v hv;rcases List.mem_append.1 hv with hv | hv
  ·exact h.good v hv
  ·rw [List.mem_singleton.1 hv]; exact hc
 ·intro s x r hx hr;obtain ⟨i, o2, v, ws, k1, k2, k3, k4⟩:=h.here s x r hx hr;refine ⟨i, o2, v, ws, k1, ?_, ?_, k4⟩
  ·show (S.D ++ [o])[i]? = some o2
   rw [getElem?_append_left (List.getElem?_eq_some_iff.1 k2).1]; exact k2
  ·rw [getElem?_append_left (List.getElem?_eq_some_iff.1 k3).1]; exact k3
 ·intro i o2 v ho hv hall;have ho2 : (S.D ++ [o])[i]? = some o2:=ho;by_cases hi : i < S.D.length
  ·rw [getElem?_append_left hi] at ho2;rw [getElem?_append_left (by omega)] at hv;exact h.away i o2 v ho2 hv hall
  ·rw [getElem?_append_right (by omega)] at ho2;rw [getElem?_append_right (by omega), hlV] at hv;rw [ho2] at hv;exact (Option.some.inj hv).symm
theorem Inv.turn {s i : Nat} {x : Slt} {r : Res} {o v o' v' : Ob} {ws ws' : List Int} {ext' : List Int} (h : Inv NS S Vt ext ex pend) (hx : S.sl[s]? = some x) (hr : x.res = some r) (hid : x.id = (i : Int) + 1) (ho : S.D[i]? = some o) (hv : Vt[i]? = some v) (d : Bool) (hV : S.V r.b = some ws)
  (hk : r.kind = o.kind) (hz : r.size = sizeM o) (hk' : o'.kind = o.kind) (hz' : sizeM o' = sizeM o) (hl : ws'.length = ws.length) (hlw : ws.length = lenW o.kind (sizeM o)) (hm : Means S.ids ws' o' v') (hd : d = false -> v' = o') (hok : o.kind = 1 -> ∀ y ∈ ws', okN NS y) (hc : checkM v' = true)
  (hcn : ∀ s2 : Nat, 1 <= s2 -> s2 <= NS -> (if r.kind = 1 then ws' else []).count (2 * (s2 : Int)) + ext'.count (2 * (s2 : Int)) = (if r.kind = 1 then ws else []).count (2 * (s2 : Int)) + ext.count (2 * (s2 : Int))) (hext : ∀ y ∈ ext', okN NS y)
  (hdi : ∀ s s', S.ids.getD s 0 = S.ids.getD s' 0 -> S.ids.getD s 0 ≠ 0 -> s = s') :
  Inv NS { S with D:=S.D.set i o', V:=updV S.V r.b (some ws'), sl:=S.sl.set s { x with res:=some { r with dirty:=d } } } (Vt.set i v') ext' ex pend:=by
 have hlt:=(List.getElem?_eq_some_iff.1 hx).1;have hlS:=h.lenS;have hil : i < S.D.length:=(List.getElem?_eq_some_iff.1 ho).1;have hvl : i < Vt.length:=(List.getElem?_eq_some_iff.1 hv).1;have hres : resOf S.sl s = some r:=(resOf_of hx).trans hr;have res : ∀ s2 r2, resOf (S.sl.set s { x with res:=some { r with dirty:=d } }) s2 = some r2 -> ∃ r3, resOf S.sl s2 = some r3 /\ r3.b = r2.b /\ r3.kind = r2.kind:=by
  intro s2 r2 h2;rw [resOf_set _ _ _ hlt] at h2;by_cases e : s2 = s
  ·rw [if_pos e] at h2;cases h2
   exact ⟨r, by rw [e, hres], rfl, rfl⟩
  ·rw [if_neg e] at h2;exact ⟨r2, h2, rfl, rfl⟩
 have off : ∀ s2 r2, s2 ≠ s -> resOf S.sl s2 = some r2 -> updV S.V r.b (some ws') r2.b = S.V r2.b:=by intro s2 r2 hne h2;unfold updV;rw [if_neg (fun e => hne (h.blocks s2 s r2 r h2 hres e))]
 have cn : ∀ y, cnt (updV S.V r.b (some ws')) (S.sl.set s { x with res:=some { r with dirty:=d } }) y + (if r.kind = 1 then ws else []).count y = cnt S.V S.sl y + (if r.kind = 1 then ws' else []).count y:=by
  intro y;have e1:=cnt_set S.V S.sl s x ⟨none, 0, 0⟩ y hx;have e2:=cnt_set (updV S.V r.b (some ws')) (S.sl.set s ⟨none, 0, 0⟩) s ⟨none, 0, 0⟩ { x with res:=some { r with dirty:=d } } y (List.getElem?_set_self hlt);rw [List.set_set] at e2;have e3 : cnt (updV S.V r.b (some ws')) (S.sl.set s ⟨none, 0, 0⟩) y = cnt S.V (S.sl.set s ⟨none, 0, 0⟩) y:=by
   refine cnt_congr (fun s2 r2 h2 => ?_);rw [resOf_set _ _ _ hlt] at h2;by_cases e : s2 = s
   ·rw [if_pos e] at h2; cases h2
   ·rw [if_neg e] at h2; exact off s2 r2 e h2
  have e4 : cntS S.V x y = (if r.kind = 1 then ws else []).count y:=by
   unfold cntS;rw [hr];by_cases hk : r.kind = 1
   ·simp only [hk, if_true, hV, Option.getD_some]
   ·simp only [hk, if_false, List.count_nil]
  have e5 : cntS (updV S.V r.b (some ws')) { x with res:=some { r with dirty:=d } } y = (if r.kind = 1 then ws' else []).count y:=by
   unfold cntS updV;by_cases hk : r.kind = 1
   ·simp only [hk, if_true, Option.getD_some]
   ·simp only [hk, if_false, List.count_nil]
  have e6 : cntS S.V ⟨none, 0, 0⟩ y = 0:=rfl;have e7 : cntS (updV S.V r.b (some ws')) ⟨none, 0, 0⟩ y = 0:=rfl;omega
 refine { lenS:=by rw [length_set]; exact h.lenS, small:=h.small, lenV:=by rw [length_set, length_set]; exact h.lenV, good:=?_, ids:=?_, zero:=?_, here:=?_, away:=?_, blocks:=?_, held:=?_, nopend:=?_, refs:=?_, named:=?_, used:=?_, idr:=?_, clock:=?_, count:=h.count, hand:=h.hand, extok:=hext, busy:=h.busy }
 ·intro u hu;rcases List.mem_or_eq_of_mem_set hu with h1 | h1
  ·exact h.good u h1
  ·rw [h1]; exact hc
 ·intro s2 z hz;rcases slt_set hz with ⟨rfl, rfl⟩ | ⟨hne, hz⟩
  ·exact h.ids s2 x hx
  ·exact h.ids s2 z hz
 ·intro z hz;rcases slt_set hz with ⟨e, rfl⟩ | ⟨_, hz⟩
  ·subst e;have:=(h.zero x hx).1;rw [hr] at this; cases this
  ·exact h.zero z hz
 ·intro s2 z r2 hz2 hr2;rcases slt_set hz2 with ⟨rfl, rfl⟩ | ⟨hne, hz0⟩
  ·cases hr2
   refine ⟨i, o', v', ws', hid, List.getElem?_set_self hil, List.getElem?_set_self hvl, hk.trans hk'.symm, hz.trans hz'.symm, ?_, by rw [hk', hz', hl]; exact hlw, hm, hd, fun hk1 => hok (hk'.symm.trans hk1)⟩;show updV S.V r.b (some ws') r.b = some ws'
   unfold updV;rw [if_pos rfl]
  ·obtain ⟨i2, o2, u, w2, k1, k2, k3, k4, k5, k6, k7, k8, k9, k10⟩:=h.here s2 z r2 hz0 hr2;have ei : i2 ≠ i:=by
    rintro rfl;apply hne
    have g1:=h.ids s2 z hz0;have g2:=h.ids s x hx;exact hdi s2 s (by rw [<- g1, <- g2, k1, hid]) (by rw [<- g1, k1]; omega)
   exact ⟨i2, o2, u, w2, k1, by rw [List.getElem?_set_ne (Ne.symm ei)]; exact k2, by rw [List.getElem?_set_ne (Ne.symm ei)]; exact k3, k4, k5, (off s2 r2 hne ((resOf_of hz0).trans hr2)).trans k6, k7, k8, k9, k10⟩
 ·intro i2 o2 u ho2 hu hall;have ei : i2 ≠ i:=by rintro rfl;have:=hall s { x with res:=some { r with dirty:=d } } (List.getElem?_set_self hlt) hid;cases this
  rw [List.getElem?_set_ne (Ne.symm ei)] at ho2 hu;refine h.away i2 o2 u ho2 hu (fun s2 z hz hid2 => ?_);by_cases e : s2 = s
  ·subst e;have e2:=Option.some.inj (hz.symm.trans hx);rw [e2, hid] at hid2;omega
  ·exact hall s2 z (by rw [List.getElem?_set_ne (Ne.symm e)]; exact hz) hid2
 ·intro s2 s3 r2 r3 h2 h3 hb;obtain ⟨q2, e2, f2, _⟩:=res s2 r2 h2;obtain ⟨q3, e3, f3, _⟩:=res s3 r3 h3;exact h.blocks s2 s3 q2 q3 e2 e3 (by rw [f2, f3]; exact hb)
 ·intro k w2 hk2;have hk3 : updV S.V r.b (some ws') k = some w2:=hk2;have hold : ∃ w3, S.V k = some w3:=by
   unfold updV at hk3;by_cases e : k = r.b
   ·exact ⟨ws, by rw [e]; exact hV⟩
   ·rw [if_neg e] at hk3; exact ⟨w2, hk3⟩
  obtain ⟨w3, hold⟩:=hold;rcases h.held k w3 hold with h2 | ⟨s2, r2, h2, h3⟩
  ·exact .inl h2
  ·right
   by_cases e : s2 = s
   ·refine ⟨s, { r with dirty:=d }, by rw [resOf_set _ _ _ hlt, if_pos rfl], ?_⟩;subst e;rw [hres] at h2;cases h2
    exact h3
   ·exact ⟨s2, r2, by rw [resOf_set _ _ _ hlt, if_neg e]; exact h2, h3⟩
 ·intro s2 r2 h2;obtain ⟨q2, e2, f2, _⟩:=res s2 r2 h2;rw [<- f2];exact h.nopend s2 q2 e2
 ·intro s2 z hz2 hs2;show z.refs = ((cnt (updV S.V r.b (some ws')) (S.sl.set s { x with res:=some { r with dirty:=d } }) (2 * (s2 : Int)) + ext'.count (2 * (s2 : Int)) : Nat) : Int)
  have hlz:=(List.getElem?_eq_some_iff.1 hz2).1;rw [length_set] at hlz;have c1:=cn (2 * (s2 : Int));have c2:=hcn s2 hs2 (by omega);rcases slt_set hz2 with ⟨rfl, rfl⟩ | ⟨hne, hz0⟩
  ·have:=h.refs s2 x hx hs2;show x.refs = _
   omega
  ·have:=h.refs s2 z hz0 hs2;omega
 ·intro s2 z hz hs2 h0;rcases slt_set hz with ⟨rfl, rfl⟩ | ⟨hne, hz⟩
  ·have:=(h.named s2 x hx hs2 h0).1;rw [hr] at this; cases this
  ·exact h.named s2 z hz hs2 h0
 ·intro s2 z hz hs2 h0 hne;rcases slt_set hz with ⟨rfl, rfl⟩ | ⟨_, hz⟩
  ·exact .inl (by simp)
  ·exact h.used s2 z hz hs2 h0 hne
 ·intro s2 z hz h0;rcases slt_set hz with ⟨rfl, rfl⟩ | ⟨_, hz⟩
  ·exact h.idr s2 x hx h0
  ·exact h.idr s2 z hz h0
 ·intro s2 z pl hz hp;rcases slt_set hz with ⟨rfl, rfl⟩ | ⟨_, hz⟩
  ·have:=h.clock s2 x pl hx hp;rw [hr] at this;exact this
  ·exact h.clock s2 z pl hz hp
theorem Inv.refUp {t : Nat} (h : Inv NS S Vt ext (fun k => ex k \/ k = t) pend) (h1 : 1 <= t) {x : Slt} (hx : S.sl[t]? = some x) (h0 : x.id ≠ 0) :
  Inv NS { S with sl:=S.sl.set t { x with refs:=x.refs + 1 } } Vt (2 * (t : Int) :: ext) ex pend:=by
 have hrt:=h.refs t x hx h1;have res:=resOf_same (x':={ x with refs:=x.refs + 1 }) hx rfl;have cn:=fun y => cnt_same S.V S.sl t x { x with refs:=x.refs + 1 } y hx rfl;have hlt:=(List.getElem?_eq_some_iff.1 hx).1;have hlS:=h.lenS;refine { lenS:=by rw [length_set]; exact h.lenS, small:=h.small, lenV:=h.lenV, good:=h.good, ids:=?_, zero:=?_, here:=?_, away:=?_, blocks:=?_, held:=?_, nopend:=?_, refs:=?_, named:=?_, used:=?_, idr:=?_, clock:=?_, count:=h.count, hand:=h.hand, extok:=?_, busy:=h.busy }
 ·intro s z hz;rcases slt_set hz with ⟨rfl, rfl⟩ | ⟨_, hz⟩
  ·exact h.ids s x hx
  ·exact h.ids s z hz
 ·intro z hz;rcases slt_set hz with ⟨e, _⟩ | ⟨_, hz⟩
  ·omega
  ·exact h.zero z hz
 ·intro s z r hz hr;rcases slt_set hz with ⟨rfl, rfl⟩ | ⟨_, hz⟩
  ·exact h.here s x r hx hr
  ·exact h.here s z r hz hr
 ·intro i o v ho hv hall;refine h.away i o v ho hv (fun s z hz hid => ?_);by_cases e : s = t
  ·subst e;have e2:=Option.some.inj (hz.symm.trans hx);rw [e2] at hid ⊢;exact hall s { x with refs:=x.refs + 1 } (List.getElem?_set_self hlt) hid
  ·exact hall s z (by rw [List.getElem?_set_ne (Ne.symm e)]; exact hz) hid
 ·intro s s' r r' hr hr';rw [res] at hr hr';exact h.blocks s s' r r' hr hr'
 ·intro k ws hk;rcases h.held k ws hk with h2 | ⟨s, r, h2, h3⟩
  ·exact .inl h2
  ·exact .inr ⟨s, r, by rw [res]; exact h2, h3⟩
 ·intro s r hr;rw [res] at hr;exact h.nopend s r hr
 ·intro s z hz hs;show z.refs = ((cnt S.V (S.sl.set t { x with refs:=x.refs + 1 }) (2 * (s : Int)) + (2 * (t : Int) :: ext).count (2 * (s : Int)) : Nat) : Int)
  rw [cn];rcases slt_set hz with ⟨rfl, rfl⟩ | ⟨hne, hz⟩
  ·rw [List.count_cons_self];show x.refs + 1 = _
   omega
  ·rw [h.refs s z hz hs, List.count_cons_of_ne];omega
 ·intro s z hz hs hid;rcases slt_set hz with ⟨rfl, rfl⟩ | ⟨_, hz⟩
  ·exact absurd hid h0
  ·exact h.named s z hz hs hid
 ·intro s z hz hs hid hex;rcases slt_set hz with ⟨rfl, rfl⟩ | ⟨hne, hz⟩
  ·exact .inr (.inl (by show 0 < x.refs + 1; omega))
  ·exact h.used s z hz hs hid (fun e => e.elim hex hne)
 ·intro s z hz hid;rcases slt_set hz with ⟨rfl, rfl⟩ | ⟨_, hz⟩
  ·exact h.idr s x hx h0
  ·exact h.idr s z hz hid
 ·intro s z pl hz hp;rcases slt_set hz with ⟨rfl, rfl⟩ | ⟨_, hz⟩
  ·exact h.clock s x pl hx hp
  ·exact h.clock s z pl hz hp
 ·intro z hz;rcases List.mem_cons.1 hz with e | e
  ·exact .inr (.inr ⟨t, e, h1, by omega⟩)
  ·exact h.extok z e
end
end Go.Proofs.YtgaemfghpibeeaaGreatDoor
namespace Go.Proofs.YtgaemfghpibeeaaGreatDoor
open Go.RowKit
theorem ext_getD {a b : List Int} (hl : a.length = b.length) (h : ∀ j, j < a.length -> a.getD j 0 = b.getD j 0) : a = b:=by
 apply List.ext_getElem?
 intro j;by_cases hj : j < a.length
 ·have:=h j hj;rw [getD_eq_getElem?_getD, getD_eq_getElem?_getD, getElem?_eq_getElem hj, getElem?_eq_getElem (by omega)] at this;rw [getElem?_eq_getElem hj, getElem?_eq_getElem (by omega)];exact congrArg some this
 ·rw [List.getElem?_eq_none (by omega), List.getElem?_eq_none (by omega)]
theorem getD_mem {l : List Int} {j : Nat} (h : j < l.length) : l.getD j 0 ∈ l:=by rw [getD_eq_getElem?_getD, getElem?_eq_getElem h];exact List.getElem_mem h
theorem getD_range_map (n : Nat) (f : Nat -> Int) (j : Nat) (h : j < n) : ((List.range n).map f).getD j 0 = f j:=by rw [getD_eq_getElem?_getD, List.getElem?_map, List.getElem?_range h]; rfl
theorem getD_map {l : List Int} (f : Int -> Int) (j : Nat) (h : j < l.length) : (l.map f).getD j 0 = f (l.getD j 0):=by rw [getD_eq_getElem?_getD, getD_eq_getElem?_getD, List.getElem?_map, getElem?_eq_getElem h]; rfl
def backW (ids ws : List Int) (o : Ob) : List Int:=(List.range o.ws.length).map fun j => meantM ids (ws.getD j 0) (o.ws.getD j 0)
def backB (ws : List Int) (o : Ob) : List Int:=(List.range o.bs.length).map fun j => byteM (ws.getD (j / 2) 0) j
theorem Means.eq {ids ws : List Int} {o v : Ob} (hm : Means ids ws o v) (hc : checkM o = true) : v = ⟨o.cls, o.kind, backW ids ws o, backB ws o⟩:=by
 obtain ⟨_, h2⟩:=checkM_parts hc;obtain ⟨c, k, a, b⟩:=v;obtain ⟨m1, m2, m3, m4, m5, m6⟩:=hm;simp only at m1 m2 m3 m4 m5 m6;have ha : a = backW ids ws o:=by
  refine ext_getD (by simp [backW, m3]) (fun j hj => ?_);rcases h2 with ⟨hk, _⟩ | ⟨hk, hw, _⟩
  ·rw [m5 hk j (by omega), backW, getD_range_map _ _ _ (by omega)]
  ·rw [hw] at m3; simp at m3; rw [m3] at hj; simp at hj
 have hb : b = backB ws o:=by
  refine ext_getD (by simp [backB, m4]) (fun j hj => ?_);rcases h2 with ⟨hk, hw, _⟩ | ⟨hk, _⟩
  ·rw [hw] at m4; simp at m4; rw [m4] at hj; simp at hj
  ·rw [m6 hk j (by omega), backB, getD_range_map _ _ _ (by omega)]
 rw [m1, m2, ha, hb]
theorem Means.size {ids ws : List Int} {o v : Ob} (hm : Means ids ws o v) : sizeM v = sizeM o:=by unfold sizeM; rw [hm.kind, hm.lw, hm.lb]
theorem Means.lenE {ids ws : List Int} {o v : Ob} (hm : Means ids ws o v) : (encM v).length = (encM o).length:=by rw [encM_length, encM_length, hm.lw, hm.lb]
def narW (v : Int) : Int:=if (nrwM v).2 = true then (nrwM v).1 else 65534
def pairB (bs : List Int) (j : Nat) : Int:=bs.getD (2 * j) 0 * 256 + bs.getD (2 * j + 1) 0
def narM (o : Ob) : List Int:=if o.kind = 1 then o.ws.map narW else (List.range ((o.bs.length + 1) / 2)).map (pairB o.bs)
theorem nrwM_ok {v : Int} (h : (nrwM v).2 = true) : 0 <= (nrwM v).1 /\ (nrwM v).1 <= 65535 /\ (nrwM v).1 % 2 = 1 /\ widM (nrwM v).1 = (v, true):=by
 unfold nrwM at h ⊢;split at h
 ·cases h
 ·next hc =>
  rw [if_neg hc];simp only at h ⊢;have hn : (numM v).2 = true:=by
   cases hh : (numM v).2 with
   | true => rfl
   | false => exact absurd (.inl hh) hc
  obtain ⟨h1, h2⟩:=numM_ok hn;rw [h2] at hc ⊢;have h3 : ¬ (v / 2 < -16384):=fun e => hc (.inr (.inl e));have h4 : ¬ (16384 <= v / 2):=fun e => hc (.inr (.inr e));refine ⟨by omega, by omega, by omega, ?_⟩;unfold widM;rw [if_neg (by omega)]
  congr 1;split <;> omega
theorem narW_ok (v : Int) : (0 <= narW v /\ narW v <= 65535 /\ narW v % 2 = 1) \/ narW v = 65534:=by
 unfold narW;split
 ·next h => have:=nrwM_ok h; exact .inl ⟨this.1, this.2.1, this.2.2.1⟩
 ·exact .inr rfl
theorem meant_nar (ids : List Int) (v : Int) : meantM ids (narW v) v = v:=by
 unfold narW;split
 ·next h => have:=(nrwM_ok h).2.2.2;unfold meantM;rw [this]; simp
 ·unfold meantM;rw [if_neg (by unfold widM; simp), if_pos rfl]
theorem byte_pair {bs : List Int} (hb : ∀ x ∈ bs, 0 <= x /\ x <= 255) (j : Nat) : byteM (pairB bs (j / 2)) j = bs.getD j 0:=by
 have hg : ∀ i, 0 <= bs.getD i 0 /\ bs.getD i 0 <= 255:=by
  intro i;by_cases hi : i < bs.length
  ·exact hb _ (getD_mem hi)
  ·rw [getD_eq_getElem?_getD, List.getElem?_eq_none (by omega)]; simp
 have h0:=hg (2 * (j / 2));have h1:=hg (2 * (j / 2) + 1);unfold byteM pairB;split
 ·have e : 2 * (j / 2) = j:=by omega
  rw [e] at h0 h1 ⊢;omega
 ·have e : 2 * (j / 2) + 1 = j:=by omega
  rw [e] at h1 ⊢;omega
theorem narM_length {o : Ob} (hc : checkM o = true) : (narM o).length = lenW o.kind (sizeM o):=by
 obtain ⟨_, h2⟩:=checkM_parts hc;unfold narM lenW sizeM;rcases h2 with ⟨hk, _⟩ | ⟨hk, _⟩
 ·rw [if_pos hk, if_neg (by omega), if_pos hk, List.length_map]
 ·rw [if_neg (by omega), if_pos hk, if_neg (by omega), if_pos hk]; simp
theorem narM_means (ids : List Int) {o : Ob} (hb : ∀ x ∈ o.bs, 0 <= x /\ x <= 255) : Means ids (narM o) o o:=by
 refine ⟨rfl, rfl, rfl, rfl, fun hk j hj => ?_, fun hk j hj => ?_⟩
 ·rw [narM, if_pos hk, getD_map _ _ hj, meant_nar]
 ·rw [narM, if_neg (by omega), getD_range_map _ _ _ (by omega), byte_pair hb]
theorem narM_ok {o : Ob} : ∀ y ∈ narM o, o.kind = 1 -> (0 <= y /\ y <= 65535 /\ y % 2 = 1) \/ y = 65534:=by intro y hy hk;rw [narM, if_pos hk] at hy;obtain ⟨v, _, rfl⟩:=List.mem_map.1 hy;exact narW_ok v
theorem narM_vals {o : Ob} (hb : ∀ x ∈ o.bs, 0 <= x /\ x <= 255) : ∀ y ∈ narM o, 0 <= y /\ y <= 65535:=by
 intro y hy;by_cases hk : o.kind = 1
 ·rcases narM_ok y hy hk with h | h
  ·exact ⟨h.1, h.2.1⟩
  ·omega
 ·rw [narM, if_neg hk] at hy;obtain ⟨j, _, rfl⟩:=List.mem_map.1 hy;have hg : ∀ i, 0 <= o.bs.getD i 0 /\ o.bs.getD i 0 <= 255:=by
   intro i;by_cases hi : i < o.bs.length
   ·exact hb _ (getD_mem hi)
   ·rw [getD_eq_getElem?_getD, List.getElem?_eq_none (by omega)]; simp
  have h0:=hg (2 * j);have h1:=hg (2 * j + 1);unfold pairB;omega
theorem Means.setW {ids ws : List Int} {o v o' : Ob} (hm : Means ids ws o v) (hk : o.kind = 1) (j : Nat) (y u : Int) (hj : j < o.ws.length) (hl : ws.length = o.ws.length) (h1 : o'.cls = o.cls) (h2 : o'.kind = o.kind) (h3 : o'.ws.length = o.ws.length) (h4 : o'.bs.length = o.bs.length)
  (hoth : ∀ q, q ≠ j -> o'.ws.getD q 0 = o.ws.getD q 0) (hu : meantM ids y (o'.ws.getD j 0) = u) : Means ids (ws.set j y) o' ⟨v.cls, v.kind, v.ws.set j u, v.bs⟩:=by
 refine ⟨hm.cls.trans h1.symm, hm.kind.trans h2.symm, by simp only [length_set]; rw [hm.lw, h3], hm.lb.trans h4.symm, fun _ q hq => ?_, fun hk2 => by omega⟩;simp only;by_cases e : q = j
 ·subst e;rw [getD_set_self (by rw [hm.lw]; exact hj), getD_set_self (by omega)];exact hu.symm
 ·rw [getD_set_ne (Ne.symm e), getD_set_ne (Ne.symm e), hm.words hk q (by omega), hoth q e]
theorem Means.setB {ids ws : List Int} {o v : Ob} (hm : Means ids ws o v) (hk : o.kind = 2) (j : Nat) (y u : Int) (hj : j < o.bs.length) (hl : ws.length = (o.bs.length + 1) / 2) (hu : byteM y j = u) (hoth : ∀ q, q ≠ j -> q / 2 = j / 2 -> byteM y q = byteM (ws.getD (j / 2) 0) q) :
  Means ids (ws.set (j / 2) y) o ⟨v.cls, v.kind, v.ws, v.bs.set j u⟩:=by
 refine ⟨hm.cls, hm.kind, hm.lw, by simp only [length_set]; exact hm.lb, fun hk2 => by omega, fun _ q hq => ?_⟩;simp only;by_cases e : q = j
 ·subst e;rw [getD_set_self (by rw [hm.lb]; exact hj), getD_set_self (by omega)];exact hu.symm
 ·rw [getD_set_ne (Ne.symm e), hm.bytes hk q hq];by_cases e2 : q / 2 = j / 2
  ·rw [e2, getD_set_self (by omega), hoth q e e2]
  ·rw [getD_set_ne (Ne.symm e2)]
structure Calm (S S' : St) : Prop where
 D : S'.D = S.D
 hc : S'.hc = S.hc
 V : S'.V = S.V
 t : S'.t = S.t
 L : S'.L = S.L
 hand : S'.hand = S.hand
 busy : S'.busy = S.busy
 res : ∀ s, resOf S'.sl s = resOf S.sl s
 slot : ∀ (s : Nat) (x' : Slt), S'.sl[s]? = some x' -> ∃ x, S.sl[s]? = some x /\ (x'.id = x.id \/ (x'.id = 0 /\ s ≠ S.busy))
theorem Calm.refl (S : St) : Calm S S:=⟨rfl, rfl, rfl, rfl, rfl, rfl, rfl, fun _ => rfl, fun _ x' h => ⟨x', h, .inl rfl⟩⟩
theorem Calm.trans {S S' S'' : St} (h : Calm S S') (k : Calm S' S'') : Calm S S'':=⟨k.D.trans h.D, k.hc.trans h.hc, k.V.trans h.V, k.t.trans h.t, k.L.trans h.L, k.hand.trans h.hand, k.busy.trans h.busy, fun s => (k.res s).trans (h.res s), fun s x2 h2 => by
 obtain ⟨x1, h1, e1⟩:=k.slot s x2 h2;obtain ⟨x0, h0, e0⟩:=h.slot s x1 h1;refine ⟨x0, h0, ?_⟩;rcases e1 with e1 | ⟨e1, f1⟩
 ·rcases e0 with e0 | ⟨e0, f0⟩
  ·exact .inl (e1.trans e0)
  ·exact .inr ⟨e1.trans e0, f0⟩
 ·exact .inr ⟨e1, by rw [<- h.busy]; exact f1⟩⟩
theorem Calm.set {S S' : St} (h : Calm S S') (p : LmP) : ∀ k, p.set S'.sl k -> p.set S.sl k:=by
 rintro k ⟨i, hi⟩
 match i, hi with
 | 0, hi => exact ⟨0, hi⟩
 | 1, hi => exact ⟨1, hi⟩
 | 2, hi => exact ⟨2, hi⟩
 | 3, hi => exact ⟨3, hi⟩
 | 4, hi => exact ⟨4, hi⟩
 | 5, hi => exact ⟨5, hi⟩
 | s + 6, hi => obtain ⟨r, hr, e⟩:=hi;exact ⟨s + 6, r, by rw [<- h.res]; exact hr, e⟩
def LoosePost (p : LmP) (N NW NS : Nat) (S : St) (Vt : List Ob) (ext : List Int) (ex pend : Nat -> Prop) (w : World) (e : Ending) (w' : World) : Prop :=
 e = .returned (.tuple #[]) /\ ∃ S', LmMem w' p N NW NS S' /\ Inv NS S' Vt ext ex pend /\ Calm S S' /\ Only (p.set S.sl) w w'
theorem loose_any (p : LmP) (N NW NS s : Nat) (S : St) (Vt : List Ob) (ext : List Int) (ex pend : Nat -> Prop) (x : Slt) (w : World) (h : LmMem w p N NW NS S) (hI : Inv NS S Vt ext (fun k => ex k \/ k = s) pend) (hs : 1 <= s) (hx : S.sl[s]? = some x) (hid : x.id ≠ 0) :
  Calls Tryz.prog 187 #[.pointer (some ⟨p.m, 0, none⟩), .int .i64 s] w (LoosePost p N NW NS S Vt ext ex pend w):=by
 have hlt:=(List.getElem?_eq_some_iff.1 hx).1;have hlS:=h.lenS;have hNS:=h.small;obtain ⟨d0, d1, d2⟩:=h.look hx;have m2:=h.head.cell 2;have m4:=h.head.cell 4;have m5:=h.head.cell 5;simp only [qTa, qTb, qTc] at m2 m4 m5;have f1:=h.slots.frozen (s * 3 + 1);have hsN : s <= NS:=by omega
 by_cases hdo : x.res = none /\ x.refs = 0 /\ s ≠ S.busy
 ·obtain ⟨hr, h0, hb⟩:=hdo;rw [hr, Option.map_none] at d0;rw [h0] at d2;have hbb : ((s : Int) != (S.busy : Int)) = true:=by simp; omega
  obtain ⟨hash, hn, hi⟩:=h.names;have hids:=hI.ids s x hx;have hf:=fun (W : World) (hn : NmAt W p.T S.ids hash) (g : Nat) (hg : Blk W g 3 #[.int .i64 s]) => free_one p.T NS S.ids hash s g W hn hi (by omega) hs hsN (by rw [<- hids]; exact hid) hg;have hb1:=(Below.refl w.heap.size w).alloc (Nat.le_refl _) (.cells #[.int .i64 (s : Int)] 3);have h1:=h.below hb1;have HF:=Lib.hid (hf _ (hn.only (only_of hb1 (fun _ => False)) (fun _ _ h => h)) w.heap.size (Blk.new w 3 #[.int .i64 (s : Int)]));have H1:=Lib.hid h1;have HI:=Lib.hid hI;have HX:=Lib.hid hx;have HR:=Lib.hid hr;have H0:=Lib.hid h0;have HLI:=Lib.hid hi.lenI;have HB0:=Lib.hid hb;clear h hI hx hid hr h0 hb hn hi hids hf h1 hb1 hlt hlS;go_enter Tryz.func187, Tryz.ntmps187;go_wp2_with fail;refine HF.out.mono ?_;rintro e w2 ⟨rfl, ⟨hash', hn2, hi2⟩, ho2⟩;have h2:=H1.out.toNames ho2 _ hash' hn2 hi2;obtain ⟨_, e1, _⟩:=h2.look HX.out;have f2:=h2.slots.frozen (s * 3 + 1);have h3:=h2.toId HX.out 0;have H3:=Lib.hid h3;have HO2:=Lib.hid ho2;clear h2 h3 ho2 hn2 hi2 d0 d1 d2 m2 m4 m5 f1;go_wp2_with fail;go_end0
  refine ⟨rfl, _, H3.out, HI.out.setId hs HX.out HR.out H0.out (by rw [HLI.out]; omega) 0 ex (.inl rfl) (fun k hk h => h.elim id (fun e => absurd e hk)), ⟨rfl, rfl, rfl, rfl, rfl, rfl, rfl, fun s2 => resOf_same (x':={ x with id:=0 }) HX.out rfl s2, fun s2 z hz => ?_⟩, ?_⟩
  ·rcases slt_set hz with ⟨rfl, rfl⟩ | ⟨_, hz⟩
   ·exact ⟨x, HX.out, .inr ⟨rfl, HB0.out⟩⟩
   ·exact ⟨z, hz, .inl rfl⟩
  refine ((((Only.refl (p.set S.sl) w).alloc _).trans (HO2.out.mono (fun k hk => ⟨3, hk⟩)))).setCell (p:=⟨p.sb, s * 3 + 1, none⟩) (.inl ⟨5, rfl⟩) _
 ·have hk : Inv NS S Vt ext ex pend:=by
   refine hI.keep hx ?_;by_cases hr : x.res = none
   ·by_cases h0 : x.refs = 0
    ·right; right; left
     have : ¬ (s ≠ S.busy):=fun hb => hdo ⟨hr, h0, hb⟩;omega
    ·have:=hI.refs s x hx hs
     right; left; omega
   ·exact .inl hr
  have HK:=Lib.hid hk;have H:=Lib.hid h;have fin : LoosePost p N NW NS S Vt ext ex pend w (.returned (.tuple #[])) w:=⟨rfl, S, h, hk, Calm.refl S, Only.refl _ _⟩;have FIN:=Lib.hid fin;have HDO:=Lib.hid hdo;obtain ⟨rs, hrs⟩ : ∃ r, r = x.res:=⟨_, rfl⟩;obtain ⟨rf, hrf⟩ : ∃ r, r = x.refs:=⟨_, rfl⟩;rw [<- hrs] at d0;rw [<- hrf] at d2;have HRS:=Lib.hid hrs;have HRF:=Lib.hid hrf;clear h hI hx hid hk fin hdo hrs hrf hlS hlt;cases rs with
  | some r =>
   rw [Option.map_some] at d0;go_enter Tryz.func187, Tryz.ntmps187;go_wp2_with fail;go_end0
   exact FIN.out
  | none =>
   rw [Option.map_none] at d0;by_cases h0 : rf = 0
   ·subst h0;have hbb : ((s : Int) != (S.busy : Int)) = false:=by
     have : s = S.busy:=by
      by_cases e : s = S.busy
      ·exact e
      ·exact absurd ⟨HRS.out.symm, HRF.out.symm, e⟩ HDO.out
     simp [this]
    go_enter Tryz.func187, Tryz.ntmps187;go_wp2_with fail;go_end0
    exact FIN.out
   ·have h00 : (rf == 0) = false:=by simpa using h0
    go_enter Tryz.func187, Tryz.ntmps187;go_wp2_with fail;go_end0
    exact FIN.out
structure Fell (S S' : St) : Prop where
 busy : S'.busy = S.busy
 slot : ∀ (s : Nat) (x' : Slt), S'.sl[s]? = some x' -> ∃ x, S.sl[s]? = some x /\ (x'.id = x.id \/ (x'.id = 0 /\ s ≠ S.busy)) /\ (x'.res = none \/ x'.res = x.res)
theorem Fell.refl (S : St) : Fell S S:=⟨rfl, fun _ x' h => ⟨x', h, .inl rfl, .inr rfl⟩⟩
theorem Fell.trans {S S' S'' : St} (h : Fell S S') (k : Fell S' S'') : Fell S S'':=by
 refine ⟨k.busy.trans h.busy, fun s x2 h2 => ?_⟩;obtain ⟨x1, h1, e1, f1⟩:=k.slot s x2 h2;obtain ⟨x0, h0, e0, f0⟩:=h.slot s x1 h1;refine ⟨x0, h0, ?_, ?_⟩
 ·rcases e1 with e1 | ⟨e1, g1⟩
  ·rcases e0 with e0 | ⟨e0, g0⟩
   ·exact .inl (e1.trans e0)
   ·exact .inr ⟨e1.trans e0, g0⟩
  ·exact .inr ⟨e1, by rw [<- h.busy]; exact g1⟩
 ·rcases f1 with f1 | f1
  ·exact .inl f1
  ·rcases f0 with f0 | f0
   ·exact .inl (f1.trans f0)
   ·exact .inr (f1.trans f0)
theorem Calm.fell {S S' : St} (h : Calm S S') : Fell S S':=by refine ⟨h.busy, fun s x' hx' => ?_⟩;obtain ⟨x, hx, e⟩:=h.slot s x' hx';have:=h.res s;rw [resOf_of hx', resOf_of hx] at this;exact ⟨x, hx, e, .inr this⟩
theorem Fell.res {S S' : St} (h : Fell S S') {s : Nat} {r : Res} (hr : resOf S'.sl s = some r) : resOf S.sl s = some r:=by
 obtain ⟨x', hx', hr'⟩:=resOf_some hr;obtain ⟨x, hx, _, f⟩:=h.slot s x' hx';rw [resOf_of hx];rcases f with f | f
 ·rw [hr'] at f; cases f
 ·rw [<- f, hr']
theorem part_sub {sl sl' : List Slt} (h : ∀ (s : Nat) (r : Res), resOf sl' s = some r -> resOf sl s = some r) (p : LmP) : ∀ k, p.set sl' k -> p.set sl k:=by
 rintro k ⟨i, hi⟩
 match i, hi with
 | 0, hi => exact ⟨0, hi⟩
 | 1, hi => exact ⟨1, hi⟩
 | 2, hi => exact ⟨2, hi⟩
 | 3, hi => exact ⟨3, hi⟩
 | 4, hi => exact ⟨4, hi⟩
 | 5, hi => exact ⟨5, hi⟩
 | s + 6, hi => obtain ⟨r, hr, e⟩:=hi;exact ⟨s + 6, r, h s r hr, e⟩
theorem Fell.set {S S' : St} (h : Fell S S') (p : LmP) : ∀ k, p.set S'.sl k -> p.set S.sl k:=part_sub (fun _ _ hr => h.res hr) p
def Away (S : St) (id : Int) : Prop:=∀ (s : Nat) (x : Slt), S.sl[s]? = some x -> x.id = id -> x.res = none
theorem Fell.away {S S' : St} (h : Fell S S') {id : Int} (hid : id ≠ 0) (ha : Away S id) : Away S' id:=by
 intro s x' hx' e;obtain ⟨x, hx, e1, f⟩:=h.slot s x' hx';have e2 : x.id = id:=by
  rcases e1 with e1 | ⟨e1, _⟩
  ·rw [<- e1]; exact e
  ·exact absurd (e.symm.trans e1) hid
 have:=ha s x hx e2;rcases f with f | f
 ·exact f
 ·rw [f]; exact this
def nresTo (sl : List Slt) : Nat -> Nat
 | 0 => 0
 | n + 1 => nresTo sl n + (if (resOf sl n).isSome then 1 else 0)
theorem nresTo_le {sl sl' : List Slt} (h : ∀ (s : Nat) (r : Res), resOf sl' s = some r -> resOf sl s = some r) (n : Nat) : nresTo sl' n <= nresTo sl n:=by
 induction n with
 | zero => exact Nat.le_refl _
 | succ n ih =>
  unfold nresTo;cases hr : resOf sl' n with
  | none => simp only [Option.isSome_none, Bool.false_eq_true, if_false]; omega
  | some r => rw [h n r hr]; simp only [Option.isSome_some, if_true]; omega
theorem nresTo_lt {sl sl' : List Slt} (h : ∀ (s : Nat) (r : Res), resOf sl' s = some r -> resOf sl s = some r) {s : Nat} {r : Res} (hs : resOf sl s = some r) (hn : resOf sl' s = none) : ∀ n, s < n -> nresTo sl' n < nresTo sl n:=by
 intro n
 induction n with
 | zero => intro h; omega
 | succ n ih =>
  intro hlt;unfold nresTo;by_cases e : s = n
  ·subst e;rw [hs, hn];have:=nresTo_le h s;simp only [Option.isSome_none, Option.isSome_some, Bool.false_eq_true, if_false, if_true];omega
  ·have:=ih (by omega);cases hr : resOf sl' n with
   | none => simp only [Option.isSome_none, Bool.false_eq_true, if_false]; omega
   | some r => rw [h n r hr]; simp only [Option.isSome_some, if_true]; omega
theorem LmMem.dist {w : World} {p : LmP} {N NW NS : Nat} {S : St} (h : LmMem w p N NW NS S) : ∀ s s', S.ids.getD s 0 = S.ids.getD s' 0 -> S.ids.getD s 0 ≠ 0 -> s = s':=by obtain ⟨hash, _, hi⟩:=h.names;exact hi.dist
theorem LmMem.lenI {w : World} {p : LmP} {N NW NS : Nat} {S : St} (h : LmMem w p N NW NS S) : S.ids.length = NS + 1:=by obtain ⟨hash, _, hi⟩:=h.names;exact hi.lenI
theorem Inv.awayV {NS : Nat} {S : St} {Vt : List Ob} {ext : List Int} {ex pend : Nat -> Prop} (h : Inv NS S Vt ext ex pend) {i : Nat} {o : Ob} (ho : S.D[i]? = some o) (ha : Away S ((i : Int) + 1)) : Vt[i]? = some o:=by
 have hl : i < Vt.length:=by rw [h.lenV]; exact (List.getElem?_eq_some_iff.1 ho).1
 have h1 : Vt[i]? = some Vt[i]:=getElem?_eq_getElem hl;have:=h.away i o _ ho h1 ha;rw [h1, this]
theorem cnt_bound {V : Nat -> Option (List Int)} {sl : List Slt} {B : Nat} (h : ∀ k ws, V k = some ws -> ws.length <= B) (y : Int) : cnt V sl y <= sl.length * B:=by
 unfold cnt
 induction sl with
 | nil => simp
 | cons x l ih =>
  rw [List.map_cons, List.sum_cons, List.length_cons, Nat.add_mul, Nat.one_mul];have h1 : cntS V x y <= B:=by
   unfold cntS;cases x.res with
   | none => exact Nat.zero_le _
   | some r =>
    simp only;split
    ·cases hV : V r.b with
     | none => simp
     | some ws => rw [Option.getD_some];exact Nat.le_trans List.count_le_length (h r.b ws hV)
    ·exact Nat.zero_le _
  omega
theorem refs_bound {p : LmP} {N NW NS : Nat} {S : St} {Vt : List Ob} {ext : List Int} {ex pend : Nat -> Prop} {w : World} (h : LmMem w p N NW NS S) (hI : Inv NS S Vt ext ex pend) (he : ext.length <= 1000000) {s : Nat} {x : Slt} (hx : S.sl[s]? = some x) (hs : 1 <= s) : 0 <= x.refs /\ x.refs <= 100000000:=by have h1:=hI.refs s x hx hs;have h2:=cnt_bound (V:=S.V) (sl:=S.sl) (B:=32768) (fun k ws hk => by have:=(h.heap.vals hk).2.1; have:=h.heap.size.1; omega) (2 * (s : Int));have h3 : ext.count (2 * (s : Int)) <= ext.length:=List.count_le_length;have h4:=h.lenS;have h5:=h.small;rw [h4] at h2;omega
theorem unref_any (p : LmP) (N NW NS : Nat) (y : Int) (S : St) (Vt : List Ob) (ext : List Int) (ex pend : Nat -> Prop) (w : World) (h : LmMem w p N NW NS S) (hI : Inv NS S Vt (y :: ext) ex pend) (he : ext.length < 1000000) :
  Calls Tryz.prog 177 #[.pointer (some ⟨p.m, 0, none⟩), .int .i64 y] w (LoosePost p N NW NS S Vt ext ex pend w):=by
 have hok:=hI.extok y (by simp);by_cases hy : y % 2 = 1 \/ y = 65534
 ·have hk:=hI.drop hy;have fin : LoosePost p N NW NS S Vt ext ex pend w (.returned (.tuple #[])) w:=⟨rfl, S, h, hk, Calm.refl S, Only.refl _ _⟩;have FIN:=Lib.hid fin;by_cases h2 : y = 65534
  ·subst h2;clear h hI hk fin hok hy;go_enter Tryz.func177, Tryz.ntmps177;go_wp2_with fail;go_end0
   exact FIN.out
  ·have hm : y.tmod 2 = 1 \/ y.tmod 2 = -1:=by
    have:=tmod2 y;have h3 : ¬ y.tmod 2 = 0:=by rw [this]; omega
    have h4:=Int.tmod_lt_of_pos y (show (0 : Int) < 2 by decide);have h5:=Int.lt_tmod_of_pos y (show (0 : Int) < 2 by decide);omega
   have hb0 : (y != 65534) = true:=by simpa using h2
   have hb1 : (y.tmod 2 == 0) = false:=by simp; omega
   clear h hI hk fin hok hy hm h2;go_enter Tryz.func177, Tryz.ntmps177;go_wp2_with fail;go_end0
   exact FIN.out
 ·obtain ⟨t, ht, ht1, ht2⟩ : ∃ t : Nat, y = 2 * t /\ 1 <= t /\ t <= NS:=by
   rcases hok with h1 | h1 | h1
   ·exact absurd (.inl h1.2.2) hy
   ·exact absurd (.inr h1) hy
   ·exact h1
  subst ht;have hlS:=h.lenS;have hNS:=h.small;obtain ⟨x, hx⟩ : ∃ x, S.sl[t]? = some x:=⟨_, getElem?_eq_getElem (by omega)⟩;obtain ⟨_, _, d2⟩:=h.look hx;have m4:=h.head.cell 4;simp only [qTa, qTb, qTc] at m4;have f2:=h.slots.frozen (t * 3 + 2);have hrt:=hI.refs t x hx ht1;rw [List.count_cons_self] at hrt;have hid : x.id ≠ 0:=fun e => by have:=(hI.named t x hx ht1 e).2; omega
  have hup:=h.toRefs hx (x.refs - 1);have hdn:=hI.refDown ht1 hx;have hcn:=refs_bound h hI (by simp; omega) hx ht1;have hdn2 : Inv NS { S with sl:=S.sl.set t { x with refs:=x.refs - 1 } } Vt ext (fun k => ex k \/ k = t) pend:=hdn;have hlt:=(List.getElem?_eq_some_iff.1 hx).1;have hlo:=fun (W : World) (hW : LmMem W p N NW NS { S with sl:=S.sl.set t { x with refs:=x.refs - 1 } }) => loose_any p N NW NS t { S with sl:=S.sl.set t { x with refs:=x.refs - 1 } } Vt ext ex pend { x with refs:=x.refs - 1 } W hW hdn2 ht1 (List.getElem?_set_self hlt) hid;have hset : ∀ k, p.set (S.sl.set t { x with refs:=x.refs - 1 }) k -> p.set S.sl k:=Calm.set (S:=S) (S':={ S with sl:=S.sl.set t { x with refs:=x.refs - 1 } }) ⟨rfl, rfl, rfl, rfl, rfl, rfl, rfl, fun s2 => resOf_same (x':={ x with refs:=x.refs - 1 }) hx rfl s2, fun s2 z hz => by
   rcases slt_set hz with ⟨rfl, rfl⟩ | ⟨_, hz⟩
   ·exact ⟨x, hx, .inl rfl⟩
   ·exact ⟨z, hz, .inl rfl⟩⟩ p
  have calm : Calm S { S with sl:=S.sl.set t { x with refs:=x.refs - 1 } }:=⟨rfl, rfl, rfl, rfl, rfl, rfl, rfl, fun s2 => resOf_same (x':={ x with refs:=x.refs - 1 }) hx rfl s2, fun s2 z hz => by
   rcases slt_set hz with ⟨rfl, rfl⟩ | ⟨_, hz⟩
   ·exact ⟨x, hx, .inl rfl⟩
   ·exact ⟨z, hz, .inl rfl⟩⟩
  have HLO:=Lib.hid (hlo _ hup);have HSET:=Lib.hid hset;have CALM:=Lib.hid calm;obtain ⟨rf, hrf⟩ : ∃ r, r = x.refs:=⟨_, rfl⟩;rw [<- hrf] at d2 hcn;obtain ⟨c1, c2⟩:=hcn;have HRF:=Lib.hid hrf;have htN : t < NS + 1:=by omega
  have hbN : ((2 * (t : Int)) != 65534) = true:=by simp; omega
  clear h hI hok hy hrt hid hup hdn hdn2 hlt hlo hset calm hx hrf hlS;go_enter Tryz.func177, Tryz.ntmps177;go_wp2_with fail;rw [HRF.out];refine HLO.out.mono ?_;rintro e w2 ⟨rfl, S', h2, hI2, hC2, hO2⟩;go_wp2_with fail;go_end0
  refine ⟨rfl, S', h2, hI2, CALM.out.trans hC2, ?_⟩;exact ((Only.refl (p.set S.sl) w).setCell (p:=⟨p.sb, t * 3 + 2, none⟩) (.inl ⟨5, rfl⟩) _).trans (hO2.mono HSET.out)
theorem words_any (k : Int) (n : Nat) (hn : n <= 1000000) (w : World) : Calls Tryz.prog 28 #[.int .i64 k, .int .i64 n] w fun e w' => e = .returned (.int .i64 (lenW k n : Nat)) /\ w = w':=by
 by_cases hk : k = 2
 ·subst hk;have e : lenW 2 n = (n + 1) / 2:=by simp [lenW]
  rw [e];clear e;have hh : ((((n + 1) / 2 : Nat)) : Int) = ((n : Int) + 1) / 2:=by omega
  go_enter Tryz.func28, Tryz.ntmps28;go_wp2_with fail;go_ret;refine ⟨?_, rfl⟩;rw [hh]
  first | rfl | (congr 2; first | rfl | omega)
 ·have e : lenW k n = n:=by simp [lenW, hk]
  rw [e];have hb : (k == 2) = false:=by simpa using hk
  clear e hk;go_enter Tryz.func28, Tryz.ntmps28;go_wp2_with fail;go_ret;exact ⟨rfl, rfl⟩
theorem meant_any (p : LmP) (N NW NS : Nat) (y th : Int) (S : St) (Vt : List Ob) (ext : List Int) (ex pend : Nat -> Prop) (w : World) (h : LmMem w p N NW NS S) (hI : Inv NS S Vt ext ex pend) (hy : okN NS y) :
  Calls Tryz.prog 181 #[.pointer (some ⟨p.m, 0, none⟩), .int .i64 y, .int .i64 th] w fun e w' => e = .returned (.int .i64 (meantM S.ids y th)) /\ w = w':=by
 have hw:=wide_any y w;obtain ⟨a, b⟩ : ∃ r, r = widM y:=⟨_, rfl⟩;rw [<- b] at hw;by_cases h1 : (widM y).2 = true
 ·have e : meantM S.ids y th = a.1:=by unfold meantM; rw [if_pos h1, <- b]
  rw [e];rw [<- b] at h1;obtain ⟨a1, a2⟩:=a;simp only at h1;subst h1;have HW:=Lib.hid hw;clear hw b e h hI hy;go_enter Tryz.func181, Tryz.ntmps181;go_wp2_with fail;refine HW.out.mono ?_;rintro e w2 ⟨rfl, rfl⟩;go_wp2_with fail;go_ret;exact ⟨rfl, rfl⟩
 ·have h2 : a.2 = false:=by rw [b]; simpa using h1
  obtain ⟨a1, a2⟩:=a;simp only at h2;subst h2;have HW:=Lib.hid hw;by_cases h3 : y = 65534
  ·have e : meantM S.ids y th = th:=by unfold meantM; rw [if_neg h1, if_pos h3]
   rw [e];subst h3;clear hw b e h hI hy h1;go_enter Tryz.func181, Tryz.ntmps181;go_wp2_with fail;refine HW.out.mono ?_;rintro e w2 ⟨rfl, rfl⟩;go_wp2_with fail;go_ret;exact ⟨rfl, rfl⟩
  ·obtain ⟨t, ht, ht1, ht2⟩ : ∃ t : Nat, y = 2 * t /\ 1 <= t /\ t <= NS:=by
    rcases hy with hy | hy | hy
    ·exfalso;apply h1
     unfold widM;rw [if_neg (by omega)]
    ·exact absurd hy h3
    ·exact hy
   have e : meantM S.ids y th = oopM (S.ids.getD t 0):=by
    unfold meantM;rw [if_neg h1, if_neg h3]
    congr 2;omega
   rw [e];have hlS:=h.lenS;obtain ⟨x, hx⟩ : ∃ x, S.sl[t]? = some x:=⟨_, getElem?_eq_getElem (by omega)⟩;have hid:=hI.ids t x hx;rw [<- hid];obtain ⟨_, d1, _⟩:=h.look hx;have m4:=h.head.cell 4;simp only [qTa, qTb, qTc] at m4;have ho:=oop_any x.id w;obtain ⟨i, hi⟩ : ∃ i, i = x.id:=⟨_, rfl⟩;rw [<- hi] at d1 ho ⊢;have HO:=Lib.hid ho;have hNS:=h.small;subst ht;have hb : ((2 * (t : Int)) == 65534) = false:=by simp; omega
   clear hw b e h hI hy h1 h3 hx hid ho hi hlS;go_enter Tryz.func181, Tryz.ntmps181;go_wp2_with fail;refine HW.out.mono ?_;rintro e w2 ⟨rfl, rfl⟩;go_wp2_with fail;refine HO.out.mono ?_;rintro e w2 ⟨rfl, rfl⟩;go_wp2_with fail;go_ret;exact ⟨rfl, rfl⟩
theorem take_set_arr (cur : Array Value) (n i : Nat) (v : Value) : (cur.setIfInBounds i v).toList.take n = (cur.toList.take n).set i v:=by rw [Array.toList_setIfInBounds, List.take_set]
theorem OwnsI.open_ {w : World} {B : Nat} {A : Option Addr} {n cap : Nat} {l : List Int} (h : OwnsI w B (.slice A n cap) l) (hl : 0 < l.length) : ∃ g cur, A = some ⟨g, 0, none⟩ /\ B <= g /\ n = l.length /\ Blk w g 3 cur /\ n <= cap /\ cap <= 9223372036854775807 /\ cur.size = cap /\ cur.toList.take n = l.map (Value.int .i64):=by
 rcases h.2 with ⟨e, h0⟩ | ⟨g, cap', cur, e, hg, hh, h1, h2, h3, h4⟩
 ·omega
 ·injection e with e1 e2 e3;subst e2 e3;unfold maxLen at h2;exact ⟨g, cur, e1, hg, rfl, hh, h1, h2, by omega, by simpa using h4⟩
theorem OwnsB.open_ {w : World} {B : Nat} {A : Option Addr} {n cap : Nat} {l : List Int} (h : OwnsB w B (.slice A n cap) l) (hl : 0 < l.length) : ∃ g cur, A = some ⟨g, 0, none⟩ /\ B <= g /\ n = l.length /\ Blk w g 5 cur /\ n <= cap /\ cap <= 9223372036854775807 /\ cur.size = cap /\ cur.toList.take n = l.map (Value.int .u8):=by
 rcases h.2 with ⟨e, h0⟩ | ⟨g, cap', cur, e, hg, hh, h1, h2, h3, h4⟩
 ·omega
 ·injection e with e1 e2 e3;subst e2 e3;unfold maxLen at h2;exact ⟨g, cur, e1, hg, rfl, hh, h1, h2, by omega, by simpa using h4⟩
theorem cur_get {cur : Array Value} {n i : Nat} {l : List Int} {f : Int -> Value} (hi : i < l.length) (hn : n = l.length) (h : cur.toList.take n = l.map f) : cur[i]? = some (f (l.getD i 0)):=by
 have h1 : (cur.toList.take n)[i]? = (l.map f)[i]?:=by rw [h]
 rw [List.getElem?_take, if_pos (by omega), List.getElem?_map, getElem?_eq_getElem hi] at h1;rw [getD_eq_getElem?_getD, getElem?_eq_getElem hi]
 simpa using h1
theorem OwnsI.at_ {w : World} {B g n cap : Nat} {l : List Int} (h : OwnsI w B (.slice (some ⟨g, 0, none⟩) n cap) l) {i : Nat} (hi : i < l.length) :
  B <= g /\ g < w.heap.size /\ w.cell? ⟨g, i, none⟩ = some (.int .i64 (l.getD i 0)) /\ w.frozen? ⟨g, i, none⟩ = false /\ ∀ v, OwnsI (w.setCell ⟨g, i, none⟩ (.int .i64 v)) B (.slice (some ⟨g, 0, none⟩) n cap) (l.set i v):=by
 obtain ⟨g', cur, e, hB, hn, hb, h1, h2, h3, h4⟩:=h.open_ (by omega);injection e with e; injection e with e _;subst e;refine ⟨hB, hb.lt, ?_, hb.frozen i, fun v => ?_⟩
 ·rw [hb.cell i]; exact cur_get hi hn h4
 ·have hl : (l.set i v).length = l.length:=length_set;have:=OwnsI.of_blk (B:=B) (xs:=l.set i v) (cap:=cap) (hb.set_ i (.int .i64 v)) hB (by rw [hl]; omega) h2 (by simpa using h3) (by rw [hl, take_set_arr, <- hn, h4, List.map_set]);rw [hl, <- hn] at this;exact this
theorem OwnsB.at_ {w : World} {B g n cap : Nat} {l : List Int} (h : OwnsB w B (.slice (some ⟨g, 0, none⟩) n cap) l) {i : Nat} (hi : i < l.length) :
  B <= g /\ g < w.heap.size /\ w.cell? ⟨g, i, none⟩ = some (.int .u8 (l.getD i 0)) /\ w.frozen? ⟨g, i, none⟩ = false /\ ∀ v, OwnsB (w.setCell ⟨g, i, none⟩ (.int .u8 v)) B (.slice (some ⟨g, 0, none⟩) n cap) (l.set i v):=by
 obtain ⟨g', cur, e, hB, hn, hb, h1, h2, h3, h4⟩:=h.open_ (by omega);injection e with e; injection e with e _;subst e;refine ⟨hB, hb.lt, ?_, hb.frozen i, fun v => ?_⟩
 ·rw [hb.cell i]; exact cur_get hi hn h4
 ·have hl : (l.set i v).length = l.length:=length_set;have:=OwnsB.of_blk (B:=B) (bs:=l.set i v) (cap:=cap) (hb.set_ i (.int .u8 v)) hB (by rw [hl]; omega) h2 (by simpa using h3) (by rw [hl, take_set_arr, <- hn, h4, List.map_set]);rw [hl, <- hn] at this;exact this
def upTo (new old : List Int) (j : Nat) : List Int:=new.take j ++ old.drop j
theorem upTo_length {new old : List Int} (h : new.length = old.length) (j : Nat) : (upTo new old j).length = old.length:=by unfold upTo; simp; omega
theorem upTo_zero (new old : List Int) : upTo new old 0 = old:=by simp [upTo]
theorem upTo_all {new old : List Int} (h : new.length = old.length) {j : Nat} (hj : old.length <= j) : upTo new old j = new:=by unfold upTo;rw [take_of_length_le (by omega), List.drop_eq_nil_of_le hj, List.append_nil]
theorem upTo_get {new old : List Int} (h : new.length = old.length) (j k : Nat) : (upTo new old j).getD k 0 = if k < j then new.getD k 0 else old.getD k 0:=by
 unfold upTo;rw [getD_eq_getElem?_getD, List.getElem?_append, List.length_take];by_cases hk : k < j
 ·rw [if_pos hk];by_cases hl : k < new.length
  ·rw [if_pos (by omega), List.getElem?_take, if_pos hk, getD_eq_getElem?_getD]
  ·rw [if_neg (by omega), List.getElem?_eq_none (by simp; omega), getD_eq_getElem?_getD, List.getElem?_eq_none (by omega)]
 ·rw [if_neg hk];by_cases hl : j <= new.length
  ·rw [if_neg (by omega), List.getElem?_drop, getD_eq_getElem?_getD]
   congr 2; omega
  ·rw [if_neg (by omega), List.getElem?_eq_none (by simp; omega), getD_eq_getElem?_getD, List.getElem?_eq_none (by omega)]
theorem upTo_set {new old : List Int} (h : new.length = old.length) (j : Nat) : (upTo new old j).set j (new.getD j 0) = upTo new old (j + 1):=by
 refine ext_getD (by rw [length_set, upTo_length h, upTo_length h]) (fun k hk => ?_);rw [length_set, upTo_length h] at hk;rw [getD_set, upTo_length h, upTo_get h, upTo_get h];by_cases e : j = k
 ·subst e;rw [if_pos ⟨rfl, hk⟩, if_pos (by omega)]
 ·rw [if_neg (fun x => e x.1)];by_cases h2 : k < j
  ·rw [if_pos h2, if_pos (by omega)]
  ·rw [if_neg h2, if_neg (by omega)]
end Go.Proofs.YtgaemfghpibeeaaGreatDoor
