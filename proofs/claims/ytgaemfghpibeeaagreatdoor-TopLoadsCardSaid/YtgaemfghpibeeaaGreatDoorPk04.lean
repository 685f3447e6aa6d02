/-
  Words are read from bytes; a disk, a map of bits and an extent are made, read and written as their plain law says. Conditions: each theorem names its own.
-/
import Derived.Test.YtgaemfghpibeeaaGreatDoorPk03
import Derived.BigRegion
import Derived.ChangeAlike
import Derived.Deep.Cut
import Derived.DeepKeys4
import Derived.Laws.CopyOwn
import Derived.Lib.SmallJoins
import Derived.Maps.OwnSet
import Derived.RegionTactic
import Derived.WalkSmall
set_option maxRecDepth 100000
set_option maxHeartbeats 6000000
open Go.Lib (hid)
open List (getElem?_eq_getElem mem_of_getElem? getElem?_append_left getElem?_append_right getD_eq_getElem?_getD eq_nil_of_length_eq_zero getElem?_eq_none_iff length_replicate take_of_length_le length_set length_append)
namespace Go.Proofs.YtgaemfghpibeeaaGreatDoor
open Go.RowKit
theorem Blk.set1111 {w : World} {g : Nat} {t : TypeId} {x0 x1 x2 x3 : Value} (h : Blk w g t #[x0, x1, x2, x3]) (a b c d : Value) :
  Blk ((((w.setCell ⟨g, 0, none⟩ a).setCell ⟨g, 1, none⟩ b).setCell ⟨g, 2, none⟩ c).setCell ⟨g, 3, none⟩ d) g t #[a, b, c, d]:=by
 simpa using (((h.set_ 0 a).set_ 1 b).set_ 2 c).set_ 3 d
theorem below_four {B : Nat} {a w : World} (h : Below B a w) {g : Nat} (hg : B <= g) (p q r s : Value) :
  Below B a ((((w.setCell ⟨g, 0, none⟩ p).setCell ⟨g, 1, none⟩ q).setCell ⟨g, 2, none⟩ r).setCell ⟨g, 3, none⟩ s) :=
 (((h.setCell (p:=⟨g, 0, none⟩) hg _).setCell (p:=⟨g, 1, none⟩) hg _).setCell (p:=⟨g, 2, none⟩) hg _).setCell (p:=⟨g, 3, none⟩) hg _
theorem size29 : (Tryz.prog.info? 29).map (·.size) = some 4:=by kernel_rfl
theorem four_app (l r : List Int) (i : Nat) : fourM (l ++ r) (l.length + i) = fourM r i:=by
 have key : ∀ k, k < 4 -> (l ++ r).getD (l.length + i + k) 0 = r.getD (i + k) 0:=by
  intro k hk;rw [getD_eq_getElem?_getD, getD_eq_getElem?_getD, getElem?_append_right (by omega)]
  congr 2; omega
 unfold fourM;rw [show l.length + i = l.length + i + 0 from rfl, key 0 (by omega)];simp only [Nat.add_zero, key 1 (by omega), key 2 (by omega), key 3 (by omega)]
theorem four_left (l r : List Int) (i : Nat) (h : i + 4 <= l.length) : fourM (l ++ r) i = fourM l i:=by
 have key : ∀ k, k < 4 -> (l ++ r).getD (i + k) 0 = l.getD (i + k) 0:=by intro k hk;rw [getD_eq_getElem?_getD, getD_eq_getElem?_getD, getElem?_append_left (by omega)]
 unfold fourM;rw [show i = i + 0 from rfl, key 0 (by omega)];simp only [Nat.add_zero, key 1 (by omega), key 2 (by omega), key 3 (by omega)]
theorem four_put (v : Int) : fourM (putM v) 0 = v % 4294967296:=by unfold fourM putM;simp only [List.getD_cons_zero, List.getD_cons_succ, Nat.zero_add];omega
theorem sgn_mod (v : Int) (h : -2147483648 <= v /\ v < 2147483648) : sgn32 (v % 4294967296) = v:=by unfold sgn32;split <;> omega
theorem four_all (xs : List Int) (j : Nat) (x : Int) (h : xs[j]? = some x) : fourM (allW xs) (4 * j) = x % 4294967296:=by
 have hj:=(List.getElem?_eq_some_iff.1 h).1;have e : xs = xs.take j ++ (x :: xs.drop (j + 1)):=by
  have h1 : xs[j] = x:=by rw [getElem?_eq_getElem hj] at h; exact Option.some.inj h
  rw [<- h1, List.getElem_cons_drop, List.take_append_drop]
 rw [e];have e2 : allW (xs.take j ++ (x :: xs.drop (j + 1))) = allW (xs.take j) ++ (putM x ++ allW (xs.drop (j + 1))):=by simp [allW]
 rw [e2];have hl : (allW (xs.take j)).length = 4 * j:=by rw [allW_length, List.length_take]; omega
 have:=four_app (allW (xs.take j)) (putM x ++ allW (xs.drop (j + 1))) 0;rw [hl] at this;simp only [Nat.add_zero] at this;rw [this, four_left _ _ 0 (by simp [putM]), four_put]
theorem get_enc (o : Ob) (hw : ∀ v ∈ o.cls :: o.kind :: o.ws, -2147483648 <= v /\ v < 2147483648) :
  getM (encM o) 0 = (o.cls, 0) /\ getM (encM o) 4 = (o.kind, 0) /\ ∀ j x, o.ws[j]? = some x -> getM (encM o) (12 + 4 * (j : Nat) : Int) = (x, 0):=by
 have hl:=encM_length o;have e1 : encM o = allW (o.cls :: o.kind :: (sizeM o : Int) :: o.ws) ++ o.bs:=by simp [encM, allW]
 have key : ∀ (j : Nat) x, (o.cls :: o.kind :: (sizeM o : Int) :: o.ws)[j]? = some x -> x ∈ o.cls :: o.kind :: o.ws -> getM (encM o) ((4 * j : Nat) : Int) = (x, 0):=by
  intro j x hx hm;have hj:=(List.getElem?_eq_some_iff.1 hx).1;simp only [List.length_cons] at hj;unfold getM;rw [if_neg (by omega)]
  congr 1;rw [Int.toNat_natCast, e1, four_left _ _ _ (by rw [allW_length]; simp only [List.length_cons]; omega), four_all _ _ _ hx];exact sgn_mod x (hw x hm)
 refine ⟨key 0 _ rfl (by simp), key 1 _ rfl (by simp), fun j x hx => ?_⟩;have:=key (j + 3) x (by simpa using hx) (by simp [mem_of_getElem? hx]);rw [show ((12 : Int) + 4 * (j : Nat)) = ((4 * (j + 3) : Nat) : Int) by omega];exact this
theorem refM_bd {v : Int} (h : refM v = true) : -2147483648 <= v /\ v < 2147483648:=by
 rcases refM_cases h with h | h
 ·unfold numM at h; split at h
  ·cases h
  ·omega
 ·have:=namM_ok h; omega
theorem checkM_bd {o : Ob} (h : checkM o = true) : ∀ v ∈ o.cls :: o.kind :: o.ws, -2147483648 <= v /\ v < 2147483648:=by
 obtain ⟨h1, h2⟩:=checkM_parts h;have h3:=namM_ok h1;intro v hv;simp only [List.mem_cons] at hv;rcases hv with rfl | rfl | hv
 ·omega
 ·rcases h2 with ⟨a, _⟩ | ⟨a, _⟩ <;> omega
 ·rcases h2 with ⟨_, _, _, d⟩ | ⟨_, b, _⟩
  ·exact refM_bd (d v hv)
  ·rw [b] at hv; cases hv
def FreshO (o : Ob) (w : World) (v : Value) (w' : World) : Prop :=
 ∃ vW vB, v = .agg #[.int .i64 o.cls, .int .i64 o.kind, vW, vB] /\ OwnsI w' w.heap.size vW o.ws /\ OwnsB w' w.heap.size vB o.bs /\ (o.kind = 1 -> vB = .slice none 0 0) /\ (o.kind = 2 -> vW = .slice none 0 0)
def RetO (o : Ob) (w : World) (e : Ending) (w' : World) : Prop:=∃ v, e = .returned (.tuple #[v, .int .i64 0]) /\ FreshO o w v w' /\ Below w.heap.size w w'
def zeroO : Array Value:=#[.int .i64 0, .int .i64 0, .slice none 0 0, .slice none 0 0]
theorem decode_words (o : Ob) (hc : checkM o = true) (hk : o.kind = 1) (A : Option Addr) (cap : Nat) (w : World) (hA : Byts w A (encM o)) (hcap : (encM o).length <= cap /\ cap <= 9223372036854775807) :
  Calls Tryz.prog 65 #[.slice A (encM o).length cap] w (RetO o w):=by
 obtain ⟨g0, g1, g2⟩:=get_enc o (checkM_bd hc);obtain ⟨_, h2⟩:=checkM_parts hc;obtain ⟨hbs, hws⟩ : o.bs = [] /\ o.ws.length <= 1000:=by
  rcases h2 with ⟨_, b, c, _⟩ | ⟨a, _⟩
  ·exact ⟨b, c⟩
  ·omega
 have hlen:=encM_length o;have hws63 : ∀ v ∈ o.ws, -9223372036854775808 <= v /\ v <= 9223372036854775807:=by intro v hv;have:=checkM_bd hc v (by simp [hv]);omega
 have hck:=checkM_bd hc o.cls (by simp);rw [hbs] at hlen;simp only [List.length_nil, Nat.add_zero] at hlen;obtain ⟨n, hn⟩ : ∃ n, n = o.ws.length:=⟨_, rfl⟩;obtain ⟨E, hE⟩ : ∃ E, E = encM o:=⟨_, rfl⟩;rw [<- hE] at g0 g1 g2 hA hcap hlen ⊢;rw [<- hn] at hlen hws;have b0 : Blk (w.alloc (.cells zeroO 29)) w.heap.size 29 zeroO:=Blk.new w 29 zeroO;have b1 : Blk ((w.alloc (.cells zeroO 29)).alloc (.cells #[.int .i64 o.cls, .int .i64 1, .slice none 0 0, .slice none 0 0] 29)) (w.heap.size + 1) 29 #[.int .i64 o.cls, .int .i64 1, .slice none 0 0, .slice none 0 0]:=Blk.new2 w _ 29 _;have b01:=b0.alloc (.cells #[.int .i64 o.cls, .int .i64 1, .slice none 0 0, .slice none 0 0] 29);have hb:=((Below.refl w.heap.size w).alloc (Nat.le_refl _) (.cells zeroO 29)).alloc (by simp) (.cells #[.int .i64 o.cls, .int .i64 1, .slice none 0 0, .slice none 0 0] 29);unfold zeroO at *;have hget:=fun (W : World) (i : Int) (hb : Below w.heap.size w W) => get_any W A E cap i hcap.2 hcap.1 (hA.below hb);obtain ⟨p, hp⟩ : ∃ p, p = E.length:=⟨_, rfl⟩;rw [<- hp] at hlen hcap hget ⊢;have hp1 : 12 + 4 * n <= p:=by omega
 have hp2 : p <= 12 + 4 * n:=by omega
 clear hlen;have hbw:=(Below.refl w.heap.size w).alloc (Nat.le_refl _) (.cells #[.int .i64 0, .int .i64 0, .slice none 0 0, .slice none 0 0] 29);have G0:=hget _ 0 hbw;have G1:=hget _ 4 hbw;rw [g0] at G0;rw [g1, hk] at G1;simp only at G0 G1;have HG0:=hid G0;have HG1:=hid G1;have HGET:=hid hget;have HG2:=hid g2;have HN:=hid hn;have HE:=hid hE;have HP:=hid hp;have HA:=hid hA;have HK:=hid hk;have HC:=hid hc;have HBS:=hid hbs;have H63:=hid hws63;clear g0 g1 g2 h2 G0 G1 hget hn hE hp hA hc hbs hws63 hk;go_enter Tryz.func65, Tryz.ntmps65;go_wp2_with fail;refine HG0.out.mono ?_;rintro e w1 ⟨rfl, rfl⟩;go_wp2_with fail;refine HG1.out.mono ?_;rintro e w1 ⟨rfl, rfl⟩;go_wp2_with fail;clear HG0 HG1;go_loopg [9, 10, 11] n (fun g s9 s10 s11 wr => ∃ (j : Nat) (vW : Value), j + g = n /\ s9 = .int .i64 (12 + 4 * (j : Int)) /\ OwnsI wr (w.heap.size + 2) vW (o.ws.take j) /\
  Blk wr (w.heap.size + 1) 29 #[.int .i64 o.cls, .int .i64 1, vW, .slice none 0 0] /\ Blk wr w.heap.size 29 #[.int .i64 0, .int .i64 0, .slice none 0 0, .slice none 0 0] /\ Below w.heap.size w wr)
 case atStart => exact ⟨0, .slice none 0 0, by omega, rfl, World.ownsRow_nil _ _ _ _, b1, b01, hb⟩
 case round =>
  clear b0 b1 b01 hb hbw;obtain ⟨j, vW, hj, rfl, hown, b1, b0, hb⟩:=hrel;have hlt1:=b1.lt;have hlt0:=b0.lt;have c0:=b1.cell 0;have c1:=b1.cell 1;have c2:=b1.cell 2;have c3:=b1.cell 3;simp only [qTa, qTb, qTc] at c0 c1 c2 c3;cases gk with
  | zero =>
   have hjn : ¬ ((12 + 4 * (j : Int)) <= (p : Int) - 4):=by omega
   have e : o.ws.take j = o.ws:=take_of_length_le (by have:=HN.out; omega);rw [e] at hown;obtain ⟨AW, cw, rfl, hl1, hl2, hI, hno⟩:=hown.reads H63.out;have hR : ObR wr o AW cw none 0:=⟨hI, by rw [HBS.out]; exact Byts.nil _ _, hl1, by rw [HBS.out]; simp, hl2, by omega, hno, fun _ => rfl, by omega, by rw [HK.out]; omega⟩;have hen:=encode_ok o AW cw none 0 wr hR HC.out;unfold obV at hen;rw [HK.out, HBS.out, <- HN.out] at hen;have HEN:=hid hen;have HOW:=hid hown;rw [<- HN.out] at c2 b1;have hob : ∀ x ∈ o.bs, 0 <= x /\ x <= 255:=by rw [HBS.out]; simp
   have hev : ∀ x ∈ encM o, 0 <= x /\ x <= 255:=by
    intro x hx;unfold encM at hx;rcases List.mem_append.1 hx with h | h
    ·exact allW_vals _ x h
    ·rcases List.mem_append.1 h with h | h
     ·exact allW_vals _ x h
     ·exact hob x h
   have HEV:=hid hev;clear hI hno hl1 hR hen hown hob hev e;go_wp2_with fail;refine HEN.out.mono ?_;rintro e w2 ⟨vE, rfl, oE, bE⟩;obtain ⟨AE, cE, rfl, k1, k2, yE, _⟩:=oE.reads2 HEV.out;have hq:=equalb_any w2 AE A (encM o) E cE cap yE ((HA.out.below hb).below bE) (by omega);rw [decide_eq_true (HE.out.symm : encM o = E), <- HP.out] at hq;have HQ:=hid hq;have b12:=b1.keep bE;have b02:=b0.keep bE;have hb2:=hb.trans (bE.mono hb.size);have HOW2:=hid (OwnsI.keep HOW.out bE);clear hq yE oE bE b1 b0 hb c0 c1 c2 c3;go_wp2_with fail;rw [HP.out, HE.out];rw [HP.out, HE.out] at HQ;refine HQ.out.mono ?_;rintro e w3 ⟨rfl, bQ⟩;have b13:=b12.keep bQ;have b03:=b02.keep bQ;have hb3:=hb2.trans (bQ.mono hb2.size);have HOW3:=hid (OwnsI.keep HOW2.out bQ);have c0:=b13.cell 0;have c1:=b13.cell 1;have c2:=b13.cell 2;have c3:=b13.cell 3;simp only [qTa, qTb, qTc] at c0 c1 c2 c3;have d0:=b03.cell 0;have d1:=b03.cell 1;have d2:=b03.cell 2;have d3:=b03.cell 3;simp only [qTa, qTb, qTc] at d0 d1 d2 d3;have f3:=b03.frozen;have hlt3:=b03.lt;clear b12 b02 hb2 bQ;go_wp2_with fail;have HOW4:=HOW3.out;rw [<- HN.out] at HOW4;refine bodyPost_ret (res_cell_tmp rfl _ _ w.heap.size 29 _ (0, 0) _ rfl (b03.set1111 _ _ _ _) Tryz.underlying29 rfl size29) rfl ⟨_, rfl, ⟨_, _, by rw [HK.out], ?_, ?_, fun _ => rfl, fun h => ?_⟩, below_four hb3 (Nat.le_refl _) _ _ _ _⟩
   ·refine OwnsI.mono (B:=w.heap.size + 2) ?_ (by omega);exact (((HOW4.setCell (by simp) _).setCell (by simp) _).setCell (by simp) _).setCell (by simp) _
   ·rw [HBS.out]; exact World.ownsRow_nil _ _ _ _
   ·have:=HK.out; omega
  | succ g =>
   have hjn : (12 + 4 * (j : Int)) <= (p : Int) - 4:=by omega
   obtain ⟨x, hx⟩ : ∃ x, o.ws[j]? = some x:=⟨_, getElem?_eq_getElem (by have:=HN.out; omega)⟩;have hg:=HGET.out wr (12 + 4 * (j : Int)) hb;rw [HG2.out j x hx] at hg;have HG:=hid hg;have hs:=take_snoc o.ws j x hx;have HS:=hid hs;have hl:=List.length_take_le j o.ws;have HX:=hid (H63.out x (mem_of_getElem? hx));have f1:=b1.frozen;clear hg hs hx;go_wp2_with fail;refine HG.out.mono ?_;rintro e w1 ⟨rfl, rfl⟩;have ho2 : OwnsI (wr.alloc (.cells #[.int .i64 x] 3)) (w.heap.size + 2) vW (o.ws.take j):=World.ownsRow.alloc hown _;have b12:=b1.alloc (.cells #[.int .i64 x] 3);have b02:=b0.alloc (.cells #[.int .i64 x] 3);have hb2:=hb.alloc hb.size (.cells #[.int .i64 x] 3);have hI2:=Ints.of_blk (xs:=[x]) (Blk.new wr 3 _) (by intro v hv; simp at hv; subst hv; exact HX.out);have HI2:=hid hI2;clear hown b0 b1 hb hI2;go_wp2_with (at_builtin; refine append_ints rfl _ _ rfl (w.heap.size + 2) vW (o.ws.take j) rfl ho2 _ [x] _ _ rfl rfl HI2.out (fun h => by cases h) ?c1 (by simp; omega) ?_)
   case c1 => have : [x].length = 1:=rfl;omega
   intro v5 w5 hown5 hg5;have hlow:=fun k hk => (ho2.lt k hk).1;have hb5:=hb2.grown hg5 (by simp; omega) (fun k hk => by have:=hlow k hk; omega);have b15:=b12.grown hg5 (by intro e; have:=hlow _ e.symm; omega);have b05:=b02.grown hg5 (by intro e; have:=hlow _ e.symm; omega);have hv5 : ∀ v ∈ o.ws.take j ++ [x], -9223372036854775808 <= v /\ v <= 9223372036854775807:=by rw [<- HS.out]; intro v hv; exact H63.out v (List.mem_of_mem_take hv)
   obtain ⟨A5, cap5, e5, _⟩:=hown5.reads hv5;obtain ⟨q5, hq5⟩ : ∃ q, q = (o.ws.take j ++ [x]).length:=⟨_, rfl⟩;rw [<- hq5] at e5;subst e5;have f5:=b15.frozen;have c5:=b15.cell 2;simp only [qTa, qTb, qTc] at c5;have b16:=b15.set_ 2 (.slice A5 q5 cap5);simp only [List.setIfInBounds_toArray, List.set_cons_succ, List.set_cons_zero] at b16;clear hq5 hv5 hlow hg5 ho2 b12 b02 hb2;go_wp2;go_roundg g
   case measure => omega
   case rel => exact ⟨j + 1, _, by omega, by go_num, by rw [HS.out]; exact OwnsI.setCell hown5 (by simp) _, b16, b05.far (by simp) _, hb5.setCell (by simp) _⟩
def ObjsAt (w : World) (A : Option Addr) (l : List Ob) : Prop :=
 ∀ (j : Nat) (o : Ob), l[j]? = some o -> ∃ b off Aj caj Bj cbj, A = some ⟨b, off, none⟩ /\ b < w.heap.size /\ ObR w o Aj caj Bj cbj /\
  w.cell? ⟨b, off + j * 4, none⟩ = some (.int .i64 o.cls) /\ w.cell? ⟨b, off + j * 4 + 1, none⟩ = some (.int .i64 o.kind) /\ w.cell? ⟨b, off + j * 4 + 2, none⟩ = some (.slice Aj o.ws.length caj) /\ w.cell? ⟨b, off + j * 4 + 3, none⟩ = some (.slice Bj o.bs.length cbj)
theorem ObjsAt.below {w w' : World} {A : Option Addr} {l : List Ob} (h : ObjsAt w A l) (hb : Below w.heap.size w w') : ObjsAt w' A l:=by intro j o ho;obtain ⟨b, off, Aj, caj, Bj, cbj, h1, h2, h3, h4, h5, h6, h7⟩:=h j o ho;have hc : ∀ i, w'.cell? ⟨b, i, none⟩ = w.cell? ⟨b, i, none⟩:=fun i => hb.cell (p:=⟨b, i, none⟩) h2;exact ⟨b, off, Aj, caj, Bj, cbj, h1, Nat.lt_of_lt_of_le h2 hb.size, h3.below hb, (hc _).trans h4, (hc _).trans h5, (hc _).trans h6, (hc _).trans h7⟩
theorem ObjsAt.alloc {w : World} {A : Option Addr} {l : List Ob} (h : ObjsAt w A l) (x : Obj) : ObjsAt (w.alloc x) A l:=h.below ((Below.refl _ w).alloc (Nat.le_refl _) x)
theorem find_yes (l : List Ob) (A : Option Addr) (cap : Nat) (r : Int) (j : Nat) (o : Ob) (w : World) (h : ObjsAt w A l) (hr : namM r = ((j : Int) + 1, true)) (ho : l[j]? = some o) (hk : o.kind ≠ 0) (hl : l.length <= 2000) :
  Calls Tryz.prog 85 #[.agg #[.slice A l.length cap], .int .i64 r] w fun e w' => e = .returned (.int .i64 ((j : Int) + 1)) /\ Below w.heap.size w w':=by
 have hnm:=fun W => rnamed_any r W;rw [hr] at hnm;obtain ⟨b, off, Aj, caj, Bj, cbj, rfl, hbl, hO, q0, q1, q2, q3⟩:=(h.alloc (.cells #[.slice A l.length cap] 68)) j o ho;have hjl:=(List.getElem?_eq_some_iff.1 ho).1;have b0:=Blk.new w 68 #[.slice (some ⟨b, off, none⟩) l.length cap];have hal:=(Below.refl w.heap.size w).alloc (Nat.le_refl _) (.cells #[.slice (some ⟨b, off, none⟩) l.length cap] 68);obtain ⟨n, hn⟩ : ∃ n, n = l.length:=⟨_, rfl⟩;rw [<- hn] at hl hjl b0 hal q1 ⊢;have c0:=b0.cell 0;simp only [qTa, qTb] at c0;have hk2 : (o.kind == 0) = false:=by simpa using hk
 have hjI : ¬ ((n : Int) < (j : Int) + 1):=by omega
 have HNM:=hid hnm;have HAL:=hid hal;clear hnm hal b0 h hO q0 q2 q3 hn ho hr;go_enter Tryz.func85, Tryz.ntmps85;go_wp2_with fail;refine (HNM.out _).mono ?_;rintro e w2 ⟨rfl, rfl⟩;go_wp2_with fail;go_ret;exact ⟨rfl, HAL.out⟩
theorem find_no (l : List Ob) (A : Option Addr) (cap : Nat) (r : Int) (w : World) (hr : (namM r).2 = false \/ (l.length : Int) < (namM r).1) :
  Calls Tryz.prog 85 #[.agg #[.slice A l.length cap], .int .i64 r] w fun e w' => e = .returned (.int .i64 0) /\ Below w.heap.size w w':=by
 have hnm:=fun W => rnamed_any r W;have b0:=Blk.new w 68 #[.slice A l.length cap];have hal:=(Below.refl w.heap.size w).alloc (Nat.le_refl _) (.cells #[.slice A l.length cap] 68);obtain ⟨nm, hnmE⟩ : ∃ nm, nm = namM r:=⟨_, rfl⟩;rw [<- hnmE] at hnm hr;obtain ⟨id, ok⟩:=nm;simp only at hr;obtain ⟨n, hn⟩ : ∃ n, n = l.length:=⟨_, rfl⟩;rw [<- hn] at hr b0 hal ⊢;have c0:=b0.cell 0;simp only [qTa, qTb] at c0;have HNM:=hid hnm;have HAL:=hid hal;clear hnm hal b0 hn hnmE;cases ok with
 | false => clear hr;go_enter Tryz.func85, Tryz.ntmps85;go_wp2_with fail;refine (HNM.out _).mono ?_;rintro e w2 ⟨rfl, rfl⟩;go_wp2_with fail;go_ret;exact ⟨rfl, HAL.out⟩
 | true => have hr2 : (n : Int) < id:=hr.resolve_left (by simp);clear hr;go_enter Tryz.func85, Tryz.ntmps85;go_wp2_with fail;refine (HNM.out _).mono ?_;rintro e w2 ⟨rfl, rfl⟩;go_wp2_with fail;go_ret;exact ⟨rfl, HAL.out⟩
theorem res_cell_cell {P : Program} {fn : Func} {p q : Tmp} {ty ty' : TypeId} (h : fn.results = #[.cell p ty, .cell q ty']) (tmps : Array Value) (w : World) (g g' : Nat) (t t' : TypeId) (cs cs' : Array Value) (fr fr' : Nat × Nat) (d d' : TypeDesc)
  (hp : tmps.getD p undef = .pointer (some ⟨g, 0, none⟩)) (hg : w.heap[g]? = some (.cells cs t fr))
  (hu : P.underlying ty = some d) (hd : (match d with | .struct _ | .array _ _ => true | _ => false) = true) (hi : (P.info? ty).map (·.size) = some cs.size)
  (hp' : tmps.getD q undef = .pointer (some ⟨g', 0, none⟩)) (hg' : w.heap[g']? = some (.cells cs' t' fr'))
  (hu' : P.underlying ty' = some d') (hd' : (match d' with | .struct _ | .array _ _ => true | _ => false) = true) (hi' : (P.info? ty').map (·.size) = some cs'.size) :
  (results fn tmps).run P w = .ok (.tuple #[.agg cs, .agg cs']) w:=by
 have hp1 : tmps[p]?.getD undef = .pointer (some ⟨g, 0, none⟩):=by simpa using hp
 have hp2 : tmps[q]?.getD undef = .pointer (some ⟨g', 0, none⟩):=by simpa using hp'
 simp [results, h, hp1, hp2, asAddr, run_loadVar_row w g t ty cs fr d hg hu hd hi, run_loadVar_row w g' t' ty' cs' fr' d' hg' hu' hd' hi']
theorem size68 : (Tryz.prog.info? 68).map (·.size) = some 1:=by kernel_rfl
theorem size130 : (Tryz.prog.info? 130).map (·.size) = some 7:=by kernel_rfl
theorem size72 : (Tryz.prog.info? 72).map (·.size) = some 5:=by kernel_rfl
def toldO (o : Ob) (A : Option Addr) (ca : Nat) (B : Option Addr) (cb : Nat) (e : Int) : Array Value:=#[.int .i64 0, .int .i64 o.cls, .int .i64 o.kind, .slice A o.ws.length ca, .slice B o.bs.length cb, .bool false, .int .i64 e]
theorem Blk.set7 {w : World} {g : Nat} {t : TypeId} {x0 x1 x2 x3 x4 x5 x6 : Value} (h : Blk w g t #[x0, x1, x2, x3, x4, x5, x6]) (a b c d e f i : Value) :
  Blk (((((((w.setCell ⟨g, 0, none⟩ a).setCell ⟨g, 1, none⟩ b).setCell ⟨g, 2, none⟩ c).setCell ⟨g, 3, none⟩ d).setCell ⟨g, 4, none⟩ e).setCell ⟨g, 5, none⟩ f).setCell ⟨g, 6, none⟩ i) g t #[a, b, c, d, e, f, i]:=by
 simpa using ((((((h.set_ 0 a).set_ 1 b).set_ 2 c).set_ 3 d).set_ 4 e).set_ 5 f).set_ 6 i
theorem below_seven {B : Nat} {a w : World} (h : Below B a w) {g : Nat} (hg : B <= g) (p q r s t u v : Value) :
  Below B a (((((((w.setCell ⟨g, 0, none⟩ p).setCell ⟨g, 1, none⟩ q).setCell ⟨g, 2, none⟩ r).setCell ⟨g, 3, none⟩ s).setCell ⟨g, 4, none⟩ t).setCell ⟨g, 5, none⟩ u).setCell ⟨g, 6, none⟩ v) :=
 ((((((h.setCell (p:=⟨g, 0, none⟩) hg _).setCell (p:=⟨g, 1, none⟩) hg _).setCell (p:=⟨g, 2, none⟩) hg _).setCell (p:=⟨g, 3, none⟩) hg _).setCell (p:=⟨g, 4, none⟩) hg _).setCell (p:=⟨g, 5, none⟩) hg _).setCell (p:=⟨g, 6, none⟩) hg _
theorem Blk.far7 {w : World} {g g' : Nat} {t : TypeId} {cs : Array Value} (h : Blk w g t cs) (hg : g ≠ g') (a b c d e f i : Value) :
  Blk (((((((w.setCell ⟨g', 0, none⟩ a).setCell ⟨g', 1, none⟩ b).setCell ⟨g', 2, none⟩ c).setCell ⟨g', 3, none⟩ d).setCell ⟨g', 4, none⟩ e).setCell ⟨g', 5, none⟩ f).setCell ⟨g', 6, none⟩ i) g t cs :=
 ((((((h.far (p:=⟨g', 0, none⟩) hg a).far (p:=⟨g', 1, none⟩) hg b).far (p:=⟨g', 2, none⟩) hg c).far (p:=⟨g', 3, none⟩) hg d).far (p:=⟨g', 4, none⟩) hg e).far (p:=⟨g', 5, none⟩) hg f).far (p:=⟨g', 6, none⟩) hg i
def stepB (w : World) (m d t68 t130 : Array Value) : World:=(((w.alloc (.cells m 68)).alloc (.cells d 134)).alloc (.cells t68 68)).alloc (.cells t130 130)
theorem stepB_blks (w : World) (m d t68 t130 : Array Value) : Blk (stepB w m d t68 t130) w.heap.size 68 m /\ Blk (stepB w m d t68 t130) (w.heap.size + 1) 134 d /\ Blk (stepB w m d t68 t130) (w.heap.size + 1 + 1) 68 t68 /\
  Blk (stepB w m d t68 t130) (w.heap.size + 1 + 1 + 1) 130 t130 /\ Below w.heap.size w (stepB w m d t68 t130):=by
 have e2 : ((w.alloc (.cells m 68)).alloc (.cells d 134)).heap.size = w.heap.size + 1 + 1:=by simp
 have e3 : (((w.alloc (.cells m 68)).alloc (.cells d 134)).alloc (.cells t68 68)).heap.size = w.heap.size + 1 + 1 + 1:=by simp
 have b2:=Blk.new ((w.alloc (.cells m 68)).alloc (.cells d 134)) 68 t68;rw [e2] at b2;have b3:=Blk.new (((w.alloc (.cells m 68)).alloc (.cells d 134)).alloc (.cells t68 68)) 130 t130;rw [e3] at b3;exact ⟨(((Blk.new w 68 m).alloc _).alloc _).alloc _, ((Blk.new2 w _ 134 d).alloc _).alloc _, b2.alloc _, b3,
  ((((Below.refl w.heap.size w).alloc (Nat.le_refl _) _).alloc (by simp) _).alloc (by simp; omega) _).alloc (by simp; omega) _⟩
theorem step_no (l : List Ob) (A : Option Addr) (cap : Nat) (r : Int) (w : World) (hr : (namM r).2 = false \/ (l.length : Int) < (namM r).1) :
  Calls Tryz.prog 57 #[.agg #[.slice A l.length cap], .agg #[.int .i64 2, .int .i64 r, .int .i64 0, .int .i64 0]] w fun e w' => e = .returned (.tuple #[.agg #[.slice A l.length cap], .agg (toldO dfltO none 0 none 0 4)]) /\ Below w.heap.size w w':=by
 have hf:=fun W => find_no l A cap r W hr;obtain ⟨n, hn⟩ : ∃ n, n = l.length:=⟨_, rfl⟩;rw [<- hn] at hf ⊢;obtain ⟨b0, b1, b2, b3, hal⟩:=stepB_blks w #[.slice A n cap] #[.int .i64 2, .int .i64 r, .int .i64 0, .int .i64 0] #[.slice none 0 0] #[.int .i64 0, .int .i64 0, .int .i64 0, .slice none 0 0, .slice none 0 0, .bool false, .int .i64 0];have HF:=hid hf;have B0:=hid b0;have B2:=hid b2;have B3:=hid b3;have HAL:=hid hal;clear hf hn hr b0 b1 b2 b3 hal;go_enter Tryz.func57, Tryz.ntmps57;go_wp2_with fail;refine (HF.out _).mono ?_;rintro e w2 ⟨rfl, hb⟩;have y0:=Blk.keep (w':=w2) B0.out hb;have y2:=Blk.keep (w':=w2) B2.out hb;have y3:=Blk.keep (w':=w2) B3.out hb;have HB:=hid (HAL.out.trans (hb.mono HAL.out.size));have c0:=y0.cell 0;simp only [qTa, qTb] at c0;have Y2:=hid y2;have Y3:=hid y3;have f2:=y2.frozen;have f3:=y3.frozen;have k0:=y2.cell 0;have t0:=y3.cell 0;have t1:=y3.cell 1;have t2:=y3.cell 2;have t3:=y3.cell 3;have t4:=y3.cell 4;have t5:=y3.cell 5;have t6:=y3.cell 6;simp only [qTa, qTb, qTc] at k0 t0 t1 t2 t3 t4 t5 t6;clear y0 y2 y3 hb HF B0 B2 B3 HAL;go_wp2_with fail;have z2 : Blk (w2.setCell ⟨w.heap.size + 1 + 1, 0, none⟩ (.slice A n cap)) (w.heap.size + 1 + 1) 68 #[.slice A n cap]:=by simpa using Y2.out.set_ 0 (.slice A n cap)
 have z3:=Y3.out.far (p:=⟨w.heap.size + 1 + 1, 0, none⟩) (by dsimp only; omega) (.slice A n cap);have hres:=fun (tmps : Array Value) (h4 : tmps.getD 4 undef = .pointer (some ⟨w.heap.size + 1 + 1, 0, none⟩)) (h5 : tmps.getD 5 undef = .pointer (some ⟨w.heap.size + 1 + 1 + 1, 0, none⟩)) => res_cell_cell (P:=Tryz.prog) (fn:=Tryz.f57) rfl tmps _ (w.heap.size + 1 + 1) (w.heap.size + 1 + 1 + 1) 68 130 _ _ (0, 0) (0, 0) _ _ h4 (z2.far7 (by omega) (.int .i64 0) (.int .i64 0) (.int .i64 0) (.slice none 0 0) (.slice none 0 0) (.bool false) (.int .i64 4)) Tryz.underlying68 rfl size68 h5 (z3.set7 (.int .i64 0) (.int .i64 0) (.int .i64 0) (.slice none 0 0) (.slice none 0 0) (.bool false) (.int .i64 4)) Tryz.underlying130 rfl size130;refine bodyPost_ret (hres _ rfl rfl) rfl ?_;exact ⟨rfl, below_seven (HB.out.setCell (p:=⟨w.heap.size + 1 + 1, 0, none⟩) (by dsimp only; omega) _) (by omega) _ _ _ _ _ _ _⟩
theorem step_yes (l : List Ob) (A : Option Addr) (cap : Nat) (r : Int) (j : Nat) (o : Ob) (wa w : World) (h : ObjsAt wa A l) (hwa : Below wa.heap.size wa w) (hr : namM r = ((j : Int) + 1, true)) (ho : l[j]? = some o) (hk : o.kind ≠ 0) (hl : l.length <= 2000) :
  Calls Tryz.prog 57 #[.agg #[.slice A l.length cap], .agg #[.int .i64 2, .int .i64 r, .int .i64 0, .int .i64 0]] w fun e w' => ∃ Aj caj Bj cbj, e = .returned (.tuple #[.agg #[.slice A l.length cap], .agg (toldO o Aj caj Bj cbj 0)]) /\ ObR wa o Aj caj Bj cbj /\ Below w.heap.size w w':=by
 have hf:=fun W (hb : Below w.heap.size w W) => find_yes l A cap r j o W (h.below (hwa.trans (hb.mono hwa.size))) hr ho hk hl;obtain ⟨b, off, Aj, caj, Bj, cbj, rfl, hbl0, hO, q0, q1, q2, q3⟩:=h j o ho;have hbl : b < w.heap.size:=Nat.lt_of_lt_of_le hbl0 hwa.size;have hsa:=hwa.size;obtain ⟨n1, hn1⟩ : ∃ n, n = o.ws.length:=⟨_, rfl⟩;obtain ⟨n2, hn2⟩ : ∃ n, n = o.bs.length:=⟨_, rfl⟩;rw [<- hn1] at q2;rw [<- hn2] at q3;have HN1:=hid hn1;have HN2:=hid hn2;have hrow:=fun W (hb0 : Below w.heap.size w W) => (have hb : Below wa.heap.size wa W:=hwa.trans (hb0.mono hwa.size); ⟨(hb.cell (p:=⟨b, off + j * 4, none⟩) hbl0).trans q0, (hb.cell (p:=⟨b, off + j * 4 + 1, none⟩) hbl0).trans q1, (hb.cell (p:=⟨b, off + j * 4 + 2, none⟩) hbl0).trans q2, (hb.cell (p:=⟨b, off + j * 4 + 3, none⟩) hbl0).trans q3⟩ : _ /\ _ /\ _ /\ _);have hjl:=(List.getElem?_eq_some_iff.1 ho).1;obtain ⟨n, hn⟩ : ∃ n, n = l.length:=⟨_, rfl⟩;rw [<- hn] at hf hl hjl ⊢;obtain ⟨b0, b1, b2, b3, hal⟩:=stepB_blks w #[.slice (some ⟨b, off, none⟩) n cap] #[.int .i64 2, .int .i64 r, .int .i64 0, .int .i64 0] #[.slice none 0 0] #[.int .i64 0, .int .i64 0, .int .i64 0, .slice none 0 0, .slice none 0 0, .bool false, .int .i64 0];have HF:=hid hf;have HROW:=hid hrow;have B0:=hid b0;have B2:=hid b2;have B3:=hid b3;have HAL:=hid hal;have HO:=hid hO;clear hf hn hr b0 b1 b2 b3 hal hrow h hwa hbl0 hsa ho hk q0 q1 q2 q3 hO hn1 hn2;go_enter Tryz.func57, Tryz.ntmps57;go_wp2_with fail;refine (HF.out _ HAL.out).mono ?_;rintro e w2 ⟨rfl, hb⟩;have hbw:=HAL.out.trans (hb.mono HAL.out.size);obtain ⟨q0, q1, q2, q3⟩:=HROW.out w2 hbw;have y0:=Blk.keep (w':=w2) B0.out hb;have y2:=Blk.keep (w':=w2) B2.out hb;have y3:=Blk.keep (w':=w2) B3.out hb;have c0:=y0.cell 0;simp only [qTa, qTb] at c0;have Y2:=hid y2;have Y3:=hid y3;have f2:=y2.frozen;have f3:=y3.frozen;have k0:=y2.cell 0;have t0:=y3.cell 0;have t1:=y3.cell 1;have t2:=y3.cell 2;have t3:=y3.cell 3;have t4:=y3.cell 4;have t5:=y3.cell 5;have t6:=y3.cell 6;simp only [qTa, qTb, qTc] at k0 t0 t1 t2 t3 t4 t5 t6;have HBW:=hid hbw;clear y0 y2 y3 hb HF B0 B2 B3 HAL HROW hbw;go_upto_region 9 with (fail);go_region
 go_wp2_with fail;have z2 : Blk (w2.setCell ⟨w.heap.size + 1 + 1, 0, none⟩ (.slice (some ⟨b, off, none⟩) n cap)) (w.heap.size + 1 + 1) 68 #[.slice (some ⟨b, off, none⟩) n cap]:=by simpa using Y2.out.set_ 0 (.slice (some ⟨b, off, none⟩) n cap)
 have z3:=Y3.out.far (p:=⟨w.heap.size + 1 + 1, 0, none⟩) (by dsimp only; omega) (.slice (some ⟨b, off, none⟩) n cap);have hres:=fun (tmps : Array Value) (h4 : tmps.getD 4 undef = .pointer (some ⟨w.heap.size + 1 + 1, 0, none⟩)) (h5 : tmps.getD 5 undef = .pointer (some ⟨w.heap.size + 1 + 1 + 1, 0, none⟩)) => res_cell_cell (P:=Tryz.prog) (fn:=Tryz.f57) rfl tmps _ (w.heap.size + 1 + 1) (w.heap.size + 1 + 1 + 1) 68 130 _ _ (0, 0) (0, 0) _ _ h4 (z2.far7 (by omega) (.int .i64 0) (.int .i64 o.cls) (.int .i64 o.kind) (.slice Aj n1 caj) (.slice Bj n2 cbj) (.bool false) (.int .i64 0)).drew Tryz.underlying68 rfl size68 h5 (z3.set7 (.int .i64 0) (.int .i64 o.cls) (.int .i64 o.kind) (.slice Aj n1 caj) (.slice Bj n2 cbj) (.bool false) (.int .i64 0)).drew Tryz.underlying130 rfl size130;have hfin:=below_drewN (below_seven (HBW.out.setCell (p:=⟨w.heap.size + 1 + 1, 0, none⟩) (by dsimp only; omega) (.slice (some ⟨b, off, none⟩) n cap)) (g:=w.heap.size + 1 + 1 + 1) (by omega) (.int .i64 0) (.int .i64 o.cls) (.int .i64 o.kind) (.slice Aj n1 caj) (.slice Bj n2 cbj) (.bool false) (.int .i64 0)) 1;refine bodyPost_ret (hres _ rfl rfl) rfl ?_;exact ⟨Aj, caj, Bj, cbj, by rw [HN1.out, HN2.out]; rfl, HO.out, hfin⟩
end Go.Proofs.YtgaemfghpibeeaaGreatDoor
namespace Go.Proofs.YtgaemfghpibeeaaGreatDoor
open Go.ChangeShapes Go.WideShapes Go.ChangeAt Go.RowKit
theorem own : ownKnob Tryz.prog.godebug = none:=by kernel_rfl
theorem laidOut : laidOutB Tryz.prog = true:=by kernel_rfl
def fillWith (a : Array Value) : Obj -> Obj
 | .cells _ t frozen => .cells a t frozen
 | o => o
noncomputable def laidWorld (os : Os) : World :=
 { World.holding Tryz.prog os ⟨#[], #[], []⟩ with heap:=((World.holding Tryz.prog os ⟨#[], #[], []⟩).heap.modify 0 (fillWith spansA)).modify 1 (fillWith storesA) }
theorem spot_of {w : World} {a : Addr} {v : Value} (h : w.cell? a = some v) : a.spot = none:=by
 unfold World.cell? at h;split at h
 ·split at h
  ·cases h
  ·rename_i hs; simpa using hs
 ·cases h
section
variable {H : Type} {enc : TypeId × Value -> H} {W : World} {fuel : Nat} {v : Value} {x : DataW H × List MemPlace}
theorem byts_in (h : DataW.trod enc Tryz.prog W 0 (fun _ => true) true fuel 27 [v] = some x) :
  ∃ (A : Option Addr) (cap : Nat) (bs : List Int), v = .slice A bs.length cap /\ bs.length <= cap /\ cap <= 9223372036854775807 /\ (A = none -> cap = 0) /\ Byts W A bs:=by
 rcases open_ints Tryz.underlying27 Tryz.underlying5 (by kernel_rfl) h with ⟨hcs, hx⟩ | ⟨a, len, c, zs, hcs, _, hl, hm, hz, hx, hcell, hwz⟩
 ·simp at hcs;subst hcs;exact ⟨none, 0, [], rfl, by simp, by omega, fun _ => rfl, fun j v hj => by simp at hj⟩
 ·simp at hcs;subst hcs;unfold maxLen at hm;simp only [if_true] at hz;have hlen : (zs.take len).length = len:=by rw [List.length_take]; omega
  refine ⟨some a, c, zs.take len, by rw [hlen], by omega, hm, (fun e => by cases e), ?_⟩;intro j v hj;have hjl : j < len:=by have:=(List.getElem?_eq_some_iff.1 hj).1;rw [hlen] at this;omega
  rw [List.getElem?_take, if_pos hjl] at hj;have hc:=hcell j (by omega);have hv:=hwz v (mem_of_getElem? hj);have hd : zs.getD j 0 = v:=by rw [getD_eq_getElem?_getD, hj]; rfl
  rw [hd] at hc;have hb : 0 <= v /\ v <= 255:=by simpa [Lit.wf, IntKind.min, IntKind.max, IntKind.signed, IntKind.bits] using hv
  have hsp : a.spot = none:=by
   have h0:=spot_of (hcell 0 (by omega))
   simpa [Addr.add] using h0
  obtain ⟨b, off, sp⟩:=a;simp only at hsp;subst hsp;have hadd : (⟨b, off, none⟩ : Addr).add j = ⟨b, off + j, none⟩:=by unfold Addr.add; split <;> simp_all
  rw [hadd] at hc;exact ⟨hb.1, hb.2, b, off, rfl, World.block_lt_of_cell? W _ hc, hc⟩
theorem ints_in (h : DataW.trod enc Tryz.prog W 0 (fun _ => true) true fuel 26 [v] = some x) :
  ∃ (A : Option Addr) (cap : Nat) (bs : List Int), v = .slice A bs.length cap /\ bs.length <= cap /\ cap <= 9223372036854775807 /\ (A = none -> cap = 0) /\ Ints W A bs:=by
 rcases open_ints Tryz.underlying26 Tryz.underlying3 (by kernel_rfl) h with ⟨hcs, hx⟩ | ⟨a, len, c, zs, hcs, _, hl, hm, hz, hx, hcell, hwz⟩
 ·simp at hcs;subst hcs;exact ⟨none, 0, [], rfl, by simp, by omega, fun _ => rfl, fun j v hj => by simp at hj⟩
 ·simp at hcs;subst hcs;unfold maxLen at hm;simp only [if_true] at hz;have hlen : (zs.take len).length = len:=by rw [List.length_take]; omega
  refine ⟨some a, c, zs.take len, by rw [hlen], by omega, hm, (fun e => by cases e), ?_⟩;intro j v hj;have hjl : j < len:=by have:=(List.getElem?_eq_some_iff.1 hj).1;rw [hlen] at this;omega
  rw [List.getElem?_take, if_pos hjl] at hj;have hc:=hcell j (by omega);have hv:=hwz v (mem_of_getElem? hj);have hd : zs.getD j 0 = v:=by rw [getD_eq_getElem?_getD, hj]; rfl
  rw [hd] at hc;have hb : -9223372036854775808 <= v /\ v <= 9223372036854775807:=by simpa [Lit.wf, IntKind.min, IntKind.max, IntKind.signed, IntKind.bits] using hv
  have hsp : a.spot = none:=by
   have h0:=spot_of (hcell 0 (by omega))
   simpa [Addr.add] using h0
  obtain ⟨b, off, sp⟩:=a;simp only at hsp;subst hsp;have hadd : (⟨b, off, none⟩ : Addr).add j = ⟨b, off + j, none⟩:=by unfold Addr.add; split <;> simp_all
  rw [hadd] at hc;exact ⟨hb, b, off, rfl, World.block_lt_of_cell? W _ hc, hc⟩
theorem i64_bd {a : Int} (h : (Lit.int .i64 a).wf = true) : -9223372036854775808 <= a /\ a <= 9223372036854775807:=by simpa [Lit.wf, IntKind.min, IntKind.max, IntKind.signed, IntKind.bits] using h
theorem u8_bd {a : Int} (h : (Lit.int .u8 a).wf = true) : 0 <= a /\ a <= 255:=by simpa [Lit.wf, IntKind.min, IntKind.max, IntKind.signed, IntKind.bits] using h
theorem u16_bd {a : Int} (h : (Lit.int .u16 a).wf = true) : 0 <= a /\ a <= 65535:=by simpa [Lit.wf, IntKind.min, IntKind.max, IntKind.signed, IntKind.bits] using h
theorem objs_in (h : DataW.trod enc Tryz.prog W 0 (fun _ => true) true fuel 22 [v] = some x) :
  ∃ (A : Option Addr) (cap : Nat) (l : List Ob), v = .slice A l.length cap /\ l.length <= cap /\ cap <= 9223372036854775807 /\ ObjsAt W A l:=by
 rcases open_slice_fields Tryz.underlying22 Tryz.underlying29 (by kernel_rfl) (by kernel_rfl) h with ⟨hcs, _⟩ | ⟨a, len, c, m, D, Pl, hcs, _, hl, hm, hmm, _, hf⟩
 ·simp at hcs;subst hcs;exact ⟨none, 0, [], rfl, by simp, by omega, fun j v hj => by simp at hj⟩
 ·simp at hcs;subst hcs;unfold maxLen at hm;simp only [if_true] at hmm;have key : ∀ j, j < len -> ∃ o : Ob, ∃ b off Aj caj Bj cbj, a = ⟨b, off, none⟩ /\ b < W.heap.size /\ ObR W o Aj caj Bj cbj /\ W.cell? ⟨b, off + j * 4, none⟩ = some (.int .i64 o.cls) /\ W.cell? ⟨b, off + j * 4 + 1, none⟩ = some (.int .i64 o.kind) /\
    W.cell? ⟨b, off + j * 4 + 2, none⟩ = some (.slice Aj o.ws.length caj) /\ W.cell? ⟨b, off + j * 4 + 3, none⟩ = some (.slice Bj o.bs.length cbj):=by
   intro j hj;obtain ⟨ys, n, _, _, _, hfj⟩:=hf j (by omega);obtain ⟨v0, y0, hc0, hy0, ht0⟩:=hfj 0 _ rfl;obtain ⟨v1, y1, hc1, hy1, ht1⟩:=hfj 1 _ rfl;obtain ⟨v2, y2, hc2, hy2, ht2⟩:=hfj 2 _ rfl;obtain ⟨v3, y3, hc3, hy3, ht3⟩:=hfj 3 _ rfl;obtain ⟨z0, e0, _, w0⟩:=DataW.trod_int Tryz.underlying3 ht0;obtain ⟨z1, e1, _, w1⟩:=DataW.trod_int Tryz.underlying3 ht1;obtain ⟨Aj, caj, ws, rfl, k1, k2, k3, k4⟩:=ints_in ht2;obtain ⟨Bj, cbj, bs, rfl, m1, m2, m3, m4⟩:=byts_in ht3;simp at e0 e1;subst e0 e1;have hsp : a.spot = none:=by
    obtain ⟨_, _, _, _, _, hf0⟩:=hf 0 (by omega);obtain ⟨_, _, hc00, _, _⟩:=hf0 0 _ rfl;have h0:=spot_of hc00
    simpa [Addr.add] using h0
   obtain ⟨b, off, sp⟩:=a;simp only at hsp;subst hsp;have hadd : ∀ q, (⟨b, off, none⟩ : Addr).add q = ⟨b, off + q, none⟩:=by intro q; unfold Addr.add; split <;> simp_all
   rw [hadd] at hc0 hc1 hc2 hc3;simp only [List.size_toArray, List.length_cons, List.length_nil, Nat.zero_add] at hc0 hc1 hc2 hc3;exact ⟨⟨z0, z1, ws, bs⟩, b, off, Aj, caj, Bj, cbj, rfl, World.block_lt_of_cell? W _ hc0, ⟨k4, m4, k1, m1, k2, m2, k3, m3, i64_bd w0, i64_bd w1⟩, by simpa using hc0, by simpa [Nat.add_assoc] using hc1, by simpa [Nat.add_assoc] using hc2, by simpa [Nat.add_assoc] using hc3⟩
  have build : ∀ q, q <= len -> ∃ l : List Ob, l.length = q /\ ObjsAt W (some a) l:=by
   intro q
   induction q with
   | zero => intro _; exact ⟨[], rfl, fun j v hj => by simp at hj⟩
   | succ q ih =>
    intro hq;obtain ⟨l, hl1, hl2⟩:=ih (by omega);obtain ⟨o, b, off, Aj, caj, Bj, cbj, ha, hb, hr, c0, c1, c2, c3⟩:=key q (by omega);refine ⟨l ++ [o], by simp [hl1], ?_⟩;intro j o' hj;by_cases hjq : j < l.length
    ·rw [getElem?_append_left hjq] at hj;exact hl2 j o' hj
    ·have hjl:=(List.getElem?_eq_some_iff.1 hj).1;have hjq' : j = q:=by simp at hjl; omega
     subst hjq';rw [getElem?_append_right (by omega), hl1, Nat.sub_self] at hj;simp at hj;subst hj;exact ⟨b, off, Aj, caj, Bj, cbj, by rw [ha], hb, hr, c0, c1, c2, c3⟩
  obtain ⟨l, hl1, hl2⟩:=build len (Nat.le_refl _);subst hl1;exact ⟨some a, c, l, rfl, hl, hm, hl2⟩
end
end Go.Proofs.YtgaemfghpibeeaaGreatDoor
namespace Go.Proofs.YtgaemfghpibeeaaGreatDoor
open Go.RowKit
def Placed (w : World) (v v' : Value) : Prop:=v'.ownBlock = v.ownBlock \/ v'.ownBlock = some w.heap.size
theorem run_append_place {w w' : World} {t ty e : TypeId} {i : TypeInfo} {z v v' : Value} {base n m c : Nat} {xs news : List Value} {a : Addr} (ht : Tryz.prog.underlying t = some (.slice e)) (hi : Tryz.prog.info? e = some i) (hz : i.zero = some z)
  (hown : w.ownsRow base e i.size v n xs) (hl : news.length = m * i.size) (hnews : ∀ j u, news[j]? = some u -> w.cell? (a.add j) = some u) (h1 : ∀ u ∈ news, u.oneCell' = true)
  (h63 : n + m <= maxLen) (hbytes : (n + m) * i.bytes <= 140737488355328) (hm : 0 < m)
  (hr : (Builtin.append_ #[t, t] ty #[v, .slice (some a) m c]).run Tryz.prog w = .ok v' w') : Placed w v v':=by
 have hs : n + m <= 9223372036854775807:=by simp only [maxLen] at h63; omega
 rcases hown.2 with ⟨rfl, rfl⟩ | ⟨g, cap, cur, rfl, hbg, hg, hnc, hcm, hcs, htake⟩
 ·rw [run_append_nil w t ty e i z ht hi hz a m c news hl hnews hm (by omega) (by rw [Nat.zero_add] at hbytes; omega)] at hr;injection hr with hr _;rw [<- hr];exact .inr rfl
 ·by_cases hroom : n + m <= cap
  ·rw [run_append_room w t ty e i ht hi g n cap cur hg a m c news hl hnews h1 hroom (by rw [hl, hcs, <- Nat.add_mul]; exact Nat.mul_le_mul_right _ hroom)] at hr;injection hr with hr _;rw [<- hr];exact .inl rfl
  ·rw [run_append_grow w t ty e i z ht hi hz ⟨g, 0, none⟩ n cap xs hown.1 (hown.cells (g:=g) rfl) a m c news hl hnews (by omega) (by omega) (growslice_fits (by omega) hbytes)] at hr;injection hr with hr _;rw [<- hr];exact .inr rfl
theorem append_ints_at {w : World} {ops : Array Oper} {rest : List Oper} {o : Oper} {a : Act} {Q : Exit -> Act -> World -> Prop} (hgd : o.guard = none) (s x : Operand)
  (ho : o.op = .call { callee:=.builtin .append, args:=#[s, x], argTypes:=#[26, 26] })
  (base : Nat) (v : Value) (acc : List Int) (hs : a.eval s = v) (hown : OwnsI w base v acc) (ad : Addr) (bs : List Int) (n cap : Nat) (hn : n = bs.length) (hx : a.eval x = .slice (some ad) n cap) (hB : Ints w (some ad) bs) (hpos : 0 < n)
  (hbig : acc.length + n <= 8388608) (hbase : base <= w.heap.size)
  (h : ∀ v' w', OwnsI w' base v' (acc ++ bs) -> w.grownBy w' v.ownBlock -> Placed w v v' -> wpList Tryz.prog ops Q rest (a.put o.dst v') w') : wpList Tryz.prog ops Q (o :: rest) a w:=by
 obtain ⟨i0, hi, hz0, hz1, hz2⟩:=info_parts Tryz.info3;subst hn;have hnews1 : ∀ u ∈ bs.map (Value.int .i64), u.oneCell' = true:=by intro u hu;obtain ⟨x, _, rfl⟩:=List.mem_map.1 hu;rfl
 have hbig2 : (acc.length + bs.length) * i0.bytes <= 140737488355328:=by rw [hz2]; omega
 have hown' : w.ownsRow base 3 i0.size v acc.length (acc.map (Value.int .i64)):=by rw [hz1]; exact hown
 have hl : (bs.map (Value.int .i64)).length = bs.length * i0.size:=by rw [hz1]; simp
 have hmx : acc.length + bs.length <= maxLen:=by unfold maxLen; omega
 obtain ⟨v', w', hr, h2, h3, _⟩:=run_append_own (P:=Tryz.prog) w base 26 o.type 3 i0 (.int .i64 0) 1 8 Tryz.underlying26 hi hz0 hz1 hz2 rfl (by decide) v _ _ hown ad bs.length cap (bs.map (Value.int .i64)) (by simp) hB.row hnews1 hmx (by omega) hbase;have hp:=run_append_place Tryz.underlying26 hi hz0 hown' hl hB.row hnews1 hmx hbig2 hpos hr;have h2' : OwnsI w' base v' (acc ++ bs):=by unfold OwnsI;rw [length_append, List.map_append];exact h2
 refine wpList_plain hgd fun K hK => ?_;show o.wp Tryz.prog a w K Q
 unfold Oper.wp execOp;simp only [ho, resolve, invoke, builtin, Sem.run_bind, Sem.run_pure, Result.andThen_ok, List.map_toArray, List.map_cons, List.map_nil, hs, hx, hr];exact hK _ _ (h v' w' h2' h3 hp)
theorem OwnsI.beside {w w' : World} {B : Nat} {v u : Value} {l : List Int} (h : OwnsI w B v l) (hg : w.grownBy w' u.ownBlock) (hne : v.ownBlock = none \/ v.ownBlock ≠ u.ownBlock) : OwnsI w' B v l:=World.ownsRow.kept h hg hne
theorem Placed.beside {w : World} {B : Nat} {v u u' : Value} {l : List Int} (hp : Placed w u u') (h : OwnsI w B v l) (hne : v.ownBlock = none \/ v.ownBlock ≠ u.ownBlock) : v.ownBlock = none \/ v.ownBlock ≠ u'.ownBlock:=by
 rcases hne with h1 | h1
 ·exact .inl h1
 ·right
  rcases hp with h2 | h2
  ·rw [h2]; exact h1
  ·rw [h2];intro e;have:=(h.lt _ e).2;omega
theorem OwnsI.less {w : World} {B : Nat} {A : Option Addr} {n cap : Nat} {l : List Int} {x : Int} (h : OwnsI w B (.slice A n cap) (l ++ [x])) : OwnsI w B (.slice A l.length cap) l /\ (Value.slice A l.length cap).ownBlock = (Value.slice A n cap).ownBlock:=by
 unfold OwnsI at h;rcases h.2 with ⟨h1, h0⟩ | ⟨g, cp, cur, e1, hg, hh, h1, h2, h3, h4⟩
 ·simp at h0
 ·injection e1 with e1 e2 e3;subst e1;subst e3;simp only [length_append, List.length_cons, List.length_nil] at h1 h4;refine ⟨⟨by simp, .inr ⟨g, cap, cur, rfl, hg, hh, by omega, h2, h3, ?_⟩⟩, rfl⟩;have:=congrArg (fun q => q.take (l.length * 1)) h4;simp only [List.take_take, List.map_append] at this;rw [Nat.min_eq_left (by omega)] at this;rw [this, List.take_left' (by simp)]
theorem only_setRow (w : World) (g : Nat) (cs : Array Value) : Only (fun k => k = g) w (w.setRow g cs) :=
 ⟨rfl, rfl, rfl, by simp [World.setRow], fun k _ hs => setRow_other w g k cs hs⟩
theorem Blk.setRow {w : World} {g : Nat} {t : TypeId} {cs : Array Value} (h : Blk w g t cs) (cs' : Array Value) : Blk (w.setRow g cs') g t cs':=setRow_heap w g cs cs' t (0, 0) h
theorem copy_bytes {w : World} {ops : Array Oper} {rest : List Oper} {o : Oper} {a : Act} {Q : Exit -> Act -> World -> Prop} (hgd : o.guard = none) (d s : Operand)
  (ho : o.op = .call { callee:=.builtin .copy, args:=#[d, s], argTypes:=#[27, 27] }) (g off dLen dCap : Nat) (A : Option Addr) (sLen sCap : Nat)
  (hd : a.eval d = .slice (some ⟨g, off, none⟩) dLen dCap) (hs : a.eval s = .slice A sLen sCap) (bs src : List Int) (hb : Blk w g 5 (byteCells bs)) (hsrc : Byts w A src) (hl : sLen = src.length) (hle : src.length <= dLen) (hfit : off + dLen <= bs.length)
  (h : ∀ w', Blk w' g 5 (byteCells (bs.take off ++ (src ++ bs.drop (off + src.length)))) -> Only (fun k => k = g) w w' -> wpList Tryz.prog ops Q rest (a.put o.dst (.int .i64 sLen)) w') : wpList Tryz.prog ops Q (o :: rest) a w:=by
 have hsz : (Tryz.prog.info? 5).map (·.size) = some 1:=by kernel_rfl
 subst hl;by_cases h0 : src.length = 0
 ·obtain rfl : src = []:=eq_nil_of_length_eq_zero h0;refine wpList_copy_nothing hgd d s 27 27 ho 5 Tryz.underlying27 hsz _ A dLen dCap _ sCap hd hs (by simp) ?_;exact h w (by simpa using hb) (Only.refl _ _)
 ·cases A with
  | none => obtain ⟨_, _, _, _, hA, _⟩:=hsrc 0 _ (getElem?_eq_getElem (by omega)); cases hA
  | some ad =>
   have hlen : (src.map (Value.int .u8)).length = src.length:=by simp
   refine wpList_copy_own hgd d s 27 27 ho 5 Tryz.underlying27 hsz g off dLen dCap ad _ sCap hd hs (byteCells bs) 5 hb (src.map (Value.int .u8)) (by rw [hlen]; exact (Nat.min_eq_left hle).symm) hsrc.row (by rw [hlen]; simp [byteCells]; omega) ?_ ?_
   ·intro v hv; obtain ⟨x, _, rfl⟩:=List.mem_map.1 hv; rfl
   ·have e : ((byteCells bs).toList.take off ++ (src.map (Value.int .u8) ++ (byteCells bs).toList.drop (off + (src.map (Value.int .u8)).length))).toArray = byteCells (bs.take off ++ (src ++ bs.drop (off + src.length))):=by rw [hlen]; simp [byteCells]
    rw [e, hlen];exact h _ (hb.setRow _) (only_setRow _ _ _)
theorem clear_bytes {w : World} {ops : Array Oper} {rest : List Oper} {o : Oper} {a : Act} {Q : Exit -> Act -> World -> Prop} (hgd : o.guard = none) (x : Operand)
  (ho : o.op = .call { callee:=.builtin .clear, args:=#[x], argTypes:=#[27] }) (g off n cap : Nat) (hx : a.eval x = .slice (some ⟨g, off, none⟩) n cap) (bs : List Int) (hb : Blk w g 5 (byteCells bs)) (hfit : off + n <= bs.length)
  (h : ∀ w', Blk w' g 5 (byteCells (bs.take off ++ (List.replicate n 0 ++ bs.drop (off + n)))) -> Only (fun k => k = g) w w' -> wpList Tryz.prog ops Q rest (a.put o.dst (.tuple #[])) w') : wpList Tryz.prog ops Q (o :: rest) a w:=by
 refine wpList_plain hgd fun K hK => ?_;have hz : (zeroValue 5).run Tryz.prog w = .ok (.int .u8 0) w:=by kernel_rfl
 by_cases h0 : n = 0
 ·subst h0;have hrun : (Builtin.clear_ #[27] o.type #[.slice (some ⟨g, off, none⟩) 0 cap]).run Tryz.prog w = .ok (.tuple #[]) w:=by simp [Builtin.clear_, run_underlying Tryz.underlying27]
  unfold Oper.wp;simp [execOp, ho, resolve, invoke, builtin, hx, hrun, Result.andThen];exact hK _ _ (h w (by simpa using hb) (Only.refl _ _))
 ·have hst:=run_storeCells_at Tryz.prog g off 5 (List.replicate n (Value.int .u8 0)) 0 (byteCells bs) w hb (by simp [byteCells]; omega) (by intro v hv; rw [List.eq_of_mem_replicate hv]; rfl);have ez : (Builtin.zeroCells (Value.int .u8 0).cells n).toList = List.replicate n (Value.int .u8 0):=by
   apply List.ext_getElem?
   intro j;by_cases hj : j < n
   ·simp [Builtin.zeroCells, Value.cells, hj, Nat.mod_one]
   ·simp [Builtin.zeroCells, Value.cells, hj]
  have e : ((byteCells bs).toList.take (off + 0) ++ List.replicate n (Value.int .u8 0) ++ (byteCells bs).toList.drop (off + 0 + (List.replicate n (Value.int .u8 0)).length)).toArray = byteCells (bs.take off ++ (List.replicate n 0 ++ bs.drop (off + n))):=by simp [byteCells]
  rw [e] at hst;have hrun : (Builtin.clear_ #[27] o.type #[.slice (some ⟨g, off, none⟩) n cap]).run Tryz.prog w = .ok (.tuple #[]) (w.setRow g (byteCells (bs.take off ++ (List.replicate n 0 ++ bs.drop (off + n))))):=by obtain ⟨k, rfl⟩ : ∃ k, n = k + 1:=⟨n - 1, by omega⟩;simp [Builtin.clear_, run_underlying Tryz.underlying27, hz, ez, hst]
  unfold Oper.wp;simp [execOp, ho, resolve, invoke, builtin, hx, hrun, Result.andThen];exact hK _ _ (h _ (hb.setRow _) (only_setRow _ _ _))
structure DiskAt (w : World) (d b : Nat) (bs : List Int) : Prop where
 head : ∃ r u, Blk w d 220 #[.int .i64 r, .int .i64 u, .slice (some ⟨b, 0, none⟩) bs.length bs.length]
 body : Blk w b 5 (byteCells bs)
 ne : d ≠ b
 vals : ∀ v ∈ bs, 0 <= v /\ v <= 255
 small : bs.length <= 1280000
theorem DiskAt.only {S : Nat -> Prop} {w w' : World} {d b : Nat} {bs : List Int} (h : DiskAt w d b bs) (ho : Only S w w') (h1 : ¬ S d) (h2 : ¬ S b) : DiskAt w' d b bs:=by obtain ⟨r, u, hh⟩:=h.head;exact ⟨⟨r, u, hh.only ho h1⟩, h.body.only ho h2, h.ne, h.vals, h.small⟩
theorem diskNew_any (n : Nat) (hn : n < 20000) (w : World) :
  Calls Tryz.prog 75 #[.int .i64 n] w fun e w' => ∃ d b, e = .returned (.tuple #[.pointer (some ⟨d, 0, none⟩), .int .i64 0]) /\ DiskAt w' d b (List.replicate (64 * n) 0) /\ w.heap.size <= d /\ w.heap.size <= b /\ Below w.heap.size w w':=by
 have hmk:=make_bytes (64 * n) (by omega) w;have e : ((64 * n : Nat) : Int) = (n : Int) * 64:=by omega
 rw [e] at hmk;obtain ⟨m, hm⟩ : ∃ m, m = 64 * n:=⟨_, rfl⟩;obtain ⟨cs, hcs⟩ : ∃ cs, cs = byteCells (List.replicate (64 * n) 0):=⟨_, rfl⟩;rw [<- hcs, <- hm] at hmk;have HM:=hid hm;have HC:=hid hcs;clear hm hcs e;go_enter Tryz.func75, Tryz.ntmps75;go_wp2;go_ret2;have b0:=(Blk.new w 5 cs).alloc (.cells #[.int .i64 0, .int .i64 0, .slice (some ⟨w.heap.size, 0, none⟩) m m] 220);have b1:=Blk.new2 w (.cells cs 5) 220 #[.int .i64 0, .int .i64 0, .slice (some ⟨w.heap.size, 0, none⟩) m m];have hb:=((Below.refl w.heap.size w).alloc (Nat.le_refl _) (.cells cs 5)).alloc (by simp) (.cells #[.int .i64 0, .int .i64 0, .slice (some ⟨w.heap.size, 0, none⟩) m m] 220);have hl : (List.replicate (64 * n) (0 : Int)).length = m:=by rw [HM.out]; simp
 refine ⟨w.heap.size + 1, w.heap.size, rfl, ⟨⟨0, 0, by rw [hl]; exact b1⟩, by rw [<- HC.out]; exact b0, by omega, ?_, by simp; omega⟩, by omega, Nat.le_refl _, hb⟩;intro v hv;rw [List.eq_of_mem_replicate hv]; omega
theorem diskAt_any (d b : Nat) (bs : List Int) (i : Nat) (w : World) (hD : DiskAt w d b bs) (hi : 64 * (i + 1) <= bs.length) :
  Calls Tryz.prog 117 #[.pointer (some ⟨d, 0, none⟩), .int .i64 i] w fun e w' => e = .returned (.tuple #[.slice (some ⟨b, 64 * i, none⟩) 64 64, .int .i64 0]) /\ w = w':=by
 obtain ⟨r, u, hh⟩:=hD.head;have hs:=hD.small;obtain ⟨n, hn⟩ : ∃ n, n = bs.length:=⟨_, rfl⟩;rw [<- hn] at hh hs hi;have c2:=hh.cell 2;simp only [qTa, qTb, qTc] at c2;have h1 : ¬ ((n : Int) / 64 <= i):=by omega
 clear hn hh hD;go_enter Tryz.func117, Tryz.ntmps117;go_wp2;go_ret2;rw [show (i + 1) * 64 - i * 64 = 64 by omega, show i * 64 = 64 * i by omega];exact ⟨rfl, rfl⟩
theorem Byts.of_disk {w : World} {d b : Nat} {bs : List Int} (h : DiskAt w d b bs) (off n : Nat) : Byts w (some ⟨b, off, none⟩) ((bs.drop off).take n):=by
 intro j v hj;have hv:=h.vals v (List.mem_of_mem_drop (List.mem_of_mem_take (mem_of_getElem? hj)));refine ⟨hv.1, hv.2, b, off, rfl, h.body.lt, ?_⟩;rw [h.body.cell];rw [List.getElem?_take] at hj;split at hj
 ·rw [List.getElem?_drop] at hj;simp [byteCells, hj]
 ·cases hj
theorem diskRead_any (d b : Nat) (bs : List Int) (i : Nat) (w : World) (hD : DiskAt w d b bs) (hi : 64 * (i + 1) <= bs.length) :
  Calls Tryz.prog 95 #[.pointer (some ⟨d, 0, none⟩), .int .i64 i] w fun e w' => ∃ v, e = .returned (.tuple #[v, .int .i64 0]) /\ OwnsB w' w.heap.size v ((bs.drop (64 * i)).take 64) /\ DiskAt w' d b bs /\ Only (fun g => g = d) w w':=by
 have hat:=diskAt_any d b bs i w hD hi;obtain ⟨r, u, hh⟩:=hD.head;have c0:=hh.cell 0;simp only [qTa, qTb] at c0;have f0:=hh.frozen;have hlt:=hh.lt;have h1:=hh.set_ 0 (.int .i64 (wrap64 (r + 1)));simp only [List.setIfInBounds_toArray, List.set_cons_zero] at h1;have hD1 : DiskAt (w.setCell ⟨d, 0, none⟩ (.int .i64 (wrap64 (r + 1)))) d b bs:=⟨⟨_, _, h1⟩, hD.body.far hD.ne.symm _, hD.ne, hD.vals, hD.small⟩;have hO:=(Only.refl (fun g => g = d) w).setCell (p:=⟨d, 0, none⟩) (.inl rfl) (.int .i64 (wrap64 (r + 1)));have hlen : ((bs.drop (64 * i)).take 64).length = 64:=by simp; omega
 have hcl:=cloneb_any _ (some ⟨b, 64 * i, none⟩) ((bs.drop (64 * i)).take 64) 64 (Byts.of_disk hD1 (64 * i) 64) (by omega) (fun h => by cases h);rw [hlen] at hcl;have HA:=hid hat;have HC:=hid hcl;have HD:=hid hD1;have HL:=hid hlen;clear hat hcl hD hD1 hh h1 hlen;go_enter Tryz.func95, Tryz.ntmps95;go_wp2_with fail;refine HA.out.mono ?_;rintro e w1 ⟨rfl, rfl⟩;go_wp2_with fail;refine HC.out.mono ?_;rintro e w2 ⟨v, rfl, hv, hb⟩;go_wp2;go_ret2;have hO2:=hO.trans (only_of hb _);exact ⟨_, rfl, hv.mono (by simp), HD.out.only (only_of hb (fun _ => False)) (fun h => h) (fun h => h), hO2⟩
theorem splice_take (X s Y : List Int) : (X ++ (s ++ Y)).take (X.length + s.length) = X ++ s:=by rw [<- List.append_assoc]; exact List.take_left' (by simp)
theorem splice_drop (X s Y : List Int) (k : Nat) : (X ++ (s ++ Y)).drop (X.length + s.length + k) = Y.drop k:=by rw [<- List.drop_drop, <- List.append_assoc, List.drop_left' (by simp)]
def putS (bs : List Int) (i : Nat) (src : List Int) : List Int:=bs.take (64 * i) ++ (src ++ (List.replicate (64 - src.length) 0 ++ bs.drop (64 * (i + 1))))
theorem putS_length (bs : List Int) (i : Nat) (src : List Int) (hi : 64 * (i + 1) <= bs.length) (hs : src.length <= 64) : (putS bs i src).length = bs.length:=by simp [putS]; omega
theorem diskWrite_any (d b : Nat) (bs : List Int) (i : Nat) (A : Option Addr) (src : List Int) (cap : Nat) (w : World) (hD : DiskAt w d b bs) (hi : 64 * (i + 1) <= bs.length) (hA : Byts w A src) (hs : src.length <= 64) :
  Calls Tryz.prog 205 #[.pointer (some ⟨d, 0, none⟩), .int .i64 i, .slice A src.length cap] w fun e w' => e = .returned (.int .i64 0) /\ DiskAt w' d b (putS bs i src) /\ Only (fun g => g = d \/ g = b) w w':=by
 have hat:=diskAt_any d b bs i w hD hi;obtain ⟨m, hm⟩ : ∃ m, m = src.length:=⟨_, rfl⟩;have hs2:=hs;rw [<- hm] at hs2 ⊢;have HA:=hid hat;have HD:=hid hD;have HY:=hid hA;have HM:=hid hm;clear hat hD hA hm hs;obtain ⟨r, u, hh⟩:=HD.out.head;have hne:=HD.out.ne;have tail : ∀ w2 w3 : World, Only (fun k => k = b) w w2 -> Only (fun k => k = b) w2 w3 -> w3.cell? ⟨d, 1, none⟩ = some (.int .i64 u) /\ w3.frozen? ⟨d, 1, none⟩ = false /\ d < w3.heap.size:=by intro w2 w3 h2 h3;have h4:=(hh.only h2 hne).only h3 hne;have:=h4.cell 1;simp only [qTa, qTb, qTc] at this;exact ⟨this, h4.frozen 1, h4.lt⟩
 have fin : ∀ w2 w3 : World, Only (fun k => k = b) w w2 -> Only (fun k => k = b) w2 w3 -> Blk w3 b 5 (byteCells (putS bs i src)) ->
   DiskAt (w3.setCell ⟨d, 1, none⟩ (.int .i64 (wrap64 (u + 1)))) d b (putS bs i src) /\ Only (fun g => g = d \/ g = b) w (w3.setCell ⟨d, 1, none⟩ (.int .i64 (wrap64 (u + 1)))):=by
  intro w2 w3 h2 h3 h4;have h5:=((hh.only h2 hne).only h3 hne).set_ 1 (.int .i64 (wrap64 (u + 1)));simp only [List.setIfInBounds_toArray, List.set_cons_succ, List.set_cons_zero] at h5;have hl:=putS_length bs i src hi (by have:=HM.out; omega);refine ⟨⟨⟨r, wrap64 (u + 1), by rw [hl]; exact h5⟩, h4.far hne.symm _, hne, ?_, by rw [hl]; exact HD.out.small⟩, ((h2.trans h3).mono (fun g h => .inr h)).setCell (.inl (.inl rfl)) _⟩;intro v hv;simp only [putS, List.mem_append, List.mem_replicate] at hv;rcases hv with h | h | h | h
  ·exact HD.out.vals v (List.mem_of_mem_take h)
  ·exact HY.out.vals v h
  ·omega
  ·exact HD.out.vals v (List.mem_of_mem_drop h)
 have e1 : m < 64 -> putS bs i src = (bs.take (64 * i) ++ (src ++ bs.drop (64 * i + src.length))).take (64 * i + m) ++ (List.replicate (64 - m) 0 ++ (bs.take (64 * i) ++ (src ++ bs.drop (64 * i + src.length))).drop (64 * i + m + (64 - m))):=by
  intro hlt;have hM:=HM.out;have l1 : (bs.take (64 * i)).length = 64 * i:=by simp; omega
  have t1:=splice_take (bs.take (64 * i)) src (bs.drop (64 * i + src.length));have t2:=splice_drop (bs.take (64 * i)) src (bs.drop (64 * i + src.length)) (64 - m);rw [l1, <- hM] at t1 t2;rw [hM] at t1 t2;rw [hM, t1, t2, List.drop_drop];unfold putS;rw [List.append_assoc, show 64 * i + src.length + (64 - src.length) = 64 * (i + 1) by omega]
 have e2 : m = 64 -> putS bs i src = (bs.take (64 * i) ++ (src ++ bs.drop (64 * i + src.length))).take (64 * i) ++ (List.replicate 0 0 ++ (bs.take (64 * i) ++ (src ++ bs.drop (64 * i + src.length))).drop (64 * i + 0)):=by intro hlt;have hM:=HM.out;rw [Nat.add_zero, List.replicate_zero, List.nil_append, List.take_append_drop];unfold putS;rw [<- hM, hlt, List.replicate_zero, List.nil_append, show 64 * (i + 1) = 64 * i + 64 by omega]
 clear hh;by_cases h64 : m = 64
 ·have e2:=e2 h64;have E2:=hid e2;subst h64;clear e1 e2;go_enter Tryz.func205, Tryz.ntmps205;go_wp2_with fail;refine HA.out.mono ?_;rintro e w1 ⟨rfl, rfl⟩;go_wp2_with (first
   | (refine copy_bytes rfl (.tmp 24) (.tmp 25) rfl b (64 * i) 64 64 A _ _ rfl rfl bs src HD.out.body HY.out HM.out (by have:=HM.out; omega) (by omega) ?_; intro w2 hb2 ho2; have HB2:=hid hb2; clear hb2)
   | (refine clear_bytes rfl (.tmp 27) rfl b (64 * i) (0) _ rfl _ HB2.out (by have:=HM.out; simp only [length_append, List.length_take, List.length_drop]; omega) ?_; intro w3 hb3 ho3; have HB3:=hid hb3; clear hb3; obtain ⟨c1, f1, hlt1⟩:=tail _ _ ho2 ho3))
  go_ret;exact ⟨rfl, fin _ _ ho2 ho3 (by rw [E2.out]; exact HB3.out)⟩
 ·have hlt : m < 64:=by omega
  have h64b : ¬ (64 = m):=by omega
  have E1:=hid (e1 hlt);clear e1 e2;go_enter Tryz.func205, Tryz.ntmps205;go_wp2_with fail;refine HA.out.mono ?_;rintro e w1 ⟨rfl, rfl⟩;go_wp2_with (first
   | (refine copy_bytes rfl (.tmp 24) (.tmp 25) rfl b (64 * i) 64 64 A _ _ rfl rfl bs src HD.out.body HY.out HM.out (by have:=HM.out; omega) (by omega) ?_; intro w2 hb2 ho2; have HB2:=hid hb2; clear hb2)
   | (refine clear_bytes rfl (.tmp 27) rfl b (64 * i + m) (64 - m) (64 - m) (by rfl) _ HB2.out (by have:=HM.out; simp only [length_append, List.length_take, List.length_drop]; omega) ?_; intro w3 hb3 ho3; have HB3:=hid hb3; clear hb3; obtain ⟨c1, f1, hlt1⟩:=tail _ _ ho2 ho3))
  go_ret;exact ⟨rfl, fin _ _ ho2 ho3 (by rw [E1.out]; exact HB3.out)⟩
end Go.Proofs.YtgaemfghpibeeaaGreatDoor
namespace Go.Proofs.YtgaemfghpibeeaaGreatDoor
open Go.RowKit Go.Maps
def heldR (v : Value) : Option (DataW Value × List MemPlace):=some (.held v, [])
def MapAt (w : World) (k : TypeId) (b : Nat) (D : DataW Value) : Prop:=w.ownsMap Tryz.prog k heldR b (Maps.size D) D
section
variable {w w' : World} {k t e : TypeId} {b n : Nat} {D : DataW Value}
theorem MapAt.of (h : w.ownsMap Tryz.prog k heldR b n D) : MapAt w k b D:=by obtain ⟨es, clock, hb, F, _, hD⟩:=h;refine ⟨es, clock, hb, F, ?_, hD⟩;rw [hD];simp [Maps.size, length_sorted]
theorem MapAt.lt (h : MapAt w k b D) : b < w.heap.size:=World.ownsMap.lt h
theorem MapAt.isMap (h : MapAt w k b D) : IsMap D:=World.ownsMap.isMap h
theorem MapAt.keep {S : Nat -> Prop} (h : MapAt w k b D) (ho : Only S w w') (hs : ¬ S b) : MapAt w' k b D:=by have hlt:=h.lt;obtain ⟨es, clock, hb, F, h1, hD⟩:=h;exact ⟨es, clock, (ho.block b hlt hs).trans hb, F, h1, hD⟩
theorem MapAt.made (w : World) (k : TypeId) : MapAt (w.alloc (.map #[] 0)) k w.heap.size (.map []):=World.ownsMap_made w _ _ _
theorem MapAt.drew (h : MapAt w k b D) : MapAt w.drew k b D:=h
theorem only_of_grown (h : w.grownBy w' (some b)) : Only (fun g => g = b) w w' :=
 ⟨h.os, h.tape, h.output, h.size, fun i hi hs => h.block i hi (by intro he; injection he with he; exact hs he)⟩
theorem MapAt.look (h : MapAt w k b D) (K : Keyed Tryz.prog k) (ht : Tryz.prog.underlying t = some (.map k e)) {z : Value} (hz : (zeroValue e).run Tryz.prog w = .ok z w) {key : Value} {kl : Lit} (hkey : keyOf Tryz.prog k key = some kl) :
  ∃ v, (Instr.lookup t (.map (some b)) key false).run Tryz.prog w = .ok v w /\ D.atKey kl (.held z) = .held v:=by
 obtain ⟨v, ps, hrun, hv⟩:=World.ownsMap.lookup h K ht hz (zd:=.held z) (zp:=[]) rfl hkey;refine ⟨v, hrun, ?_⟩;unfold heldR at hv;injection hv with hv;exact (congrArg Prod.fst hv).symm
theorem MapAt.look2 (h : MapAt w k b D) (K : Keyed Tryz.prog k) (ht : Tryz.prog.underlying t = some (.map k e)) {z : Value} (hz : (zeroValue e).run Tryz.prog w = .ok z w) {key : Value} {kl : Lit} (hkey : keyOf Tryz.prog k key = some kl) :
  ∃ v, (Instr.lookup t (.map (some b)) key true).run Tryz.prog w = .ok (.tuple #[v, .bool (Maps.has D kl)]) w /\ D.atKey kl (.held z) = .held v:=by
 obtain ⟨v, ps, hrun, hv⟩:=World.ownsMap.look_ok h K ht hz (zd:=.held z) (zp:=[]) rfl hkey;refine ⟨v, hrun, ?_⟩;unfold heldR at hv;injection hv with hv;exact (congrArg Prod.fst hv).symm
theorem MapAt.store (h : MapAt w k b D) (K : Keyed Tryz.prog k) (ht : Tryz.prog.underlying t = some (.map k e)) (hn : Maps.size D < 1000000) {key : Value} {kl : Lit} (hkey : keyOf Tryz.prog k key = some kl) (val : Value) :
  ∃ w', (Instr.mapUpdate t (.map (some b)) key val).run Tryz.prog w = .ok () w' /\ MapAt w' k b (D.put kl (.held val)) /\ Only (fun g => g = b) w w':=by
 obtain ⟨w', hrun, hown, hg⟩:=World.ownsMap.update h K ht (by unfold maxLen; omega) hkey (val:=val) (d:=.held val) (ps:=[]) rfl;exact ⟨w', hrun, MapAt.of hown, only_of_grown hg⟩
theorem MapAt.drop (h : MapAt w k b D) (K : Keyed Tryz.prog k) (ht : Tryz.prog.underlying t = some (.map k e)) {key : Value} {kl : Lit} (hkey : keyOf Tryz.prog k key = some kl) (ty : TypeId) :
  ∃ w', (Builtin.delete_ #[t, k] ty #[.map (some b), key]).run Tryz.prog w = .ok (.tuple #[]) w' /\ MapAt w' k b (D.del kl) /\ Only (fun g => g = b) w w':=by
 obtain ⟨w', hrun, hown, hg⟩:=World.ownsMap.drop h K ht hkey ty;refine ⟨w', hrun, MapAt.of hown, ?_⟩;obtain ⟨es, clock, es', clock', hb, rfl⟩:=hg;exact ⟨rfl, rfl, rfl, by simp [ChangeMaps.setBlock], fun i _ hi => ChangeMaps.heap_setBlock_other hb _ (fun e => hi e)⟩
end
theorem law3 : Keyed Tryz.prog 3:=int_keyed Tryz.underlying3
theorem wfI {a : Int} (h : -9223372036854775808 <= a /\ a <= 9223372036854775807) : (Lit.int .i64 a).wf = true:=by
 have h1 : IntKind.i64.min = -9223372036854775808:=by decide
 have h2 : IntKind.i64.max = 9223372036854775807:=by decide
 simp only [Lit.wf, h1, h2, Bool.and_eq_true, decide_eq_true_eq]; exact h
theorem keyI {a : Int} (h : -9223372036854775808 <= a /\ a <= 9223372036854775807) : keyOf Tryz.prog 3 (.int .i64 a) = some (.int .i64 a):=keyOf_int_mk Tryz.underlying3 (wfI h)
theorem Tryz.laidOut : laidOutB Tryz.prog = true:=by kernel_rfl
theorem law143 : Keyed Tryz.prog 143:=Keyed.of_law (deep_law_laid Tryz.laidOut (m:=2) (by omega) (of_decide_eq_true (by kernel_rfl)) (by kernel_rfl) (by rw [Tryz.underlying143]))
def extV (a b c : Int) : Value:=.agg #[.int .i64 a, .int .i64 b, .int .i64 c]
theorem key143 : Tryz.prog.keyType 143 = true:=by kernel_rfl
theorem cells143 : Tryz.prog.cellsOf 143 = 3:=by kernel_rfl
theorem cells3 : Tryz.prog.cellsOf 3 = 1:=by kernel_rfl
theorem keyE {a b c : Int} (ha : -9223372036854775808 <= a /\ a <= 9223372036854775807) (hb : -9223372036854775808 <= b /\ b <= 9223372036854775807) (hc : -9223372036854775808 <= c /\ c <= 9223372036854775807) : ∃ kl, keyOf Tryz.prog 143 (extV a b c) = some kl:=by have h1:=wfI ha; have h2:=wfI hb; have h3:=wfI hc;unfold keyOf extV;rw [Tryz.underlying143];simp only [Value.formed, Tryz.underlying143, key143, cells143, Value.cells];obtain ⟨m, hm⟩ : ∃ m, Tryz.prog.types.size = m + 1:=⟨Tryz.prog.types.size - 1, by kernel_rfl⟩;rw [hm];unfold Program.keyLits;rw [Tryz.underlying143];simp [cells143, cells3, Program.keyLits, Tryz.underlying3, h1, h2, h3]
end Go.Proofs.YtgaemfghpibeeaaGreatDoor
namespace Go.Proofs.YtgaemfghpibeeaaGreatDoor
open Go.RowKit Go.Maps
attribute [local go_sem ↓] Go.wp_at_zero Go.wp_at_succ
def secs (n : Nat) : Nat:=max ((n + 63) / 64) 1
def padS (bs : List Int) : List Int:=bs ++ List.replicate (64 * secs bs.length - bs.length) 0
theorem padS_length (bs : List Int) : (padS bs).length = 64 * secs bs.length:=by simp [padS]; unfold secs; omega
def laidP (B : List Int) (f : Nat) (bs : List Int) (j : Nat) : List Int:=B.take (64 * f) ++ ((padS bs).take (64 * j) ++ B.drop (64 * (f + j)))
theorem laidP_length (B : List Int) (f : Nat) (bs : List Int) (j : Nat) (h : 64 * (f + j) <= B.length) (hj : j <= secs bs.length) : (laidP B f bs j).length = B.length:=by have:=padS_length bs;simp [laidP]; omega
theorem laidP_next (B : List Int) (f : Nat) (bs : List Int) (j : Nat) (h : 64 * (f + (j + 1)) <= B.length) (hj : j < secs bs.length) (hpos : 64 * j < bs.length) :
  putS (laidP B f bs j) (f + j) ((bs.drop (64 * j)).take 64) = laidP B f bs (j + 1):=by
 have hl:=padS_length bs;have l1 : (B.take (64 * f) ++ (padS bs).take (64 * j)).length = 64 * (f + j):=by simp; omega
 unfold putS laidP;rw [<- List.append_assoc (B.take (64 * f)) ((padS bs).take (64 * j)), List.take_left' l1];have e1 : (B.take (64 * f) ++ (padS bs).take (64 * j) ++ B.drop (64 * (f + j))).drop (64 * (f + j + 1)) = B.drop (64 * (f + (j + 1))):=by
  rw [show 64 * (f + j + 1) = 64 * (f + j) + 64 by omega, <- List.drop_drop, List.drop_left' l1, List.drop_drop]
  congr 1
 rw [e1];have e2 : (padS bs).take (64 * (j + 1)) = (padS bs).take (64 * j) ++ ((bs.drop (64 * j)).take 64 ++ List.replicate (64 - ((bs.drop (64 * j)).take 64).length) 0):=by
  rw [show 64 * (j + 1) = 64 * j + 64 by omega, List.take_add]
  congr 1;have e3 : (padS bs).drop (64 * j) = bs.drop (64 * j) ++ List.replicate (64 * secs bs.length - bs.length) 0:=by unfold padS;rw [List.drop_append_of_le_length (by omega)]
  rw [e3, List.take_append]
  congr 1;rw [List.take_replicate]
  congr 1;rw [List.length_take, List.length_drop];unfold secs at *;omega
 rw [e2];simp only [List.append_assoc]
theorem wrap_id {x : Int} (h : -9223372036854775808 <= x /\ x <= 9223372036854775807) : IntKind.i64.wrap x = x:=by rw [IntKind.wrap_i64]; omega
theorem only_drew (S : Nat -> Prop) (w : World) : Only S w w.drew:=⟨rfl, rfl, rfl, Nat.le_refl _, fun _ _ _ => rfl⟩
theorem DiskAt.drew {w : World} {d b : Nat} {bs : List Int} (h : DiskAt w d b bs) : DiskAt w.drew d b bs:=h.only (only_drew (fun _ => False) w) (fun h => h) (fun h => h)
theorem Byts.drew {w : World} {A : Option Addr} {bs : List Int} (h : Byts w A bs) : Byts w.drew A bs:=h
theorem Only.shrink {S T : Nat -> Prop} {w w' : World} (h : Only S w w') (hT : ∀ g, S g -> T g \/ w.heap.size <= g) : Only T w w' :=
 ⟨h.os, h.tape, h.output, h.size, fun g hg ht => h.block g hg (fun hs => (hT g hs).elim ht (fun h' => by omega))⟩
theorem Blk.set111 {w : World} {g : Nat} {t : TypeId} {x0 x1 x2 : Value} (h : Blk w g t #[x0, x1, x2]) (a b c : Value) :
  Blk (((w.setCell ⟨g, 0, none⟩ a).setCell ⟨g, 1, none⟩ b).setCell ⟨g, 2, none⟩ c) g t #[a, b, c]:=by
 simpa using ((h.set_ 0 a).set_ 1 b).set_ 2 c
theorem only_three (w : World) (g : Nat) (a b c : Value) : Only (fun k => k = g) w (((w.setCell ⟨g, 0, none⟩ a).setCell ⟨g, 1, none⟩ b).setCell ⟨g, 2, none⟩ c) :=
 (((Only.refl (fun k => k = g) w).setCell (p:=⟨g, 0, none⟩) (.inl rfl) a).setCell (p:=⟨g, 1, none⟩) (.inl rfl) b).setCell (p:=⟨g, 2, none⟩) (.inl rfl) c
theorem Only.cell {S : Nat -> Prop} {w w' : World} (h : Only S w w') {p : Addr} (hp : p.block < w.heap.size) (hs : ¬ S p.block) : w'.cell? p = w.cell? p:=by simp [World.cell?, h.block _ hp hs]
theorem size143 : (Tryz.prog.info? 143).map (·.size) = some 3:=by kernel_rfl
theorem lay_any (s d b l ab aoff cap f : Nat) (mp : Value) (B bs : List Int) (D : DataW Value) (w : World) (c : Int)
  (hs : Blk w s 178 #[.pointer (some ⟨d, 0, none⟩), mp, .map (some l)]) (hD : DiskAt w d b B) (hM : MapAt w 143 l D) (hsz : Maps.size D < 1000000)
  (h1 : s ≠ d) (h2 : s ≠ b) (h4 : l ≠ d) (h5 : l ≠ b) (hA : Byts w (some ⟨ab, aoff, none⟩) bs) (hab : ab ≠ d /\ ab ≠ b /\ ab ≠ l) (hpos : 1 <= bs.length) (hcap : bs.length <= cap /\ cap <= 9223372036854775807) (hlen : bs.length <= 100000) (hf : 64 * (f + secs bs.length) <= B.length)
  (kl : Lit) (hkl : keyOf Tryz.prog 143 (extV f (secs bs.length) bs.length) = some kl) :
  Calls Tryz.prog 192 #[.pointer (some ⟨s, 0, none⟩), extV f (secs bs.length) c, .slice (some ⟨ab, aoff, none⟩) bs.length cap] w fun e w' => e = .returned (extV f (secs bs.length) bs.length) /\ DiskAt w' d b (laidP B f bs (secs bs.length)) /\ MapAt w' 143 l (D.put kl (.held (.bool true))) /\ Only (fun g => g = d \/ g = b \/ g = l) w w':=by
 have hn : secs bs.length = (bs.length + 63) / 64:=by unfold secs; omega
 have hB:=hD.small;obtain ⟨n, hnn⟩ : ∃ n, n = secs bs.length:=⟨_, rfl⟩;obtain ⟨p, hp⟩ : ∃ p, p = bs.length:=⟨_, rfl⟩;rw [<- hnn] at hf hkl ⊢;rw [<- hp] at hpos hcap hlen hkl ⊢;rw [<- hnn, <- hp] at hn;have hn1 : 64 * n <= p + 63:=by omega
 have hn2 : p <= 64 * n:=by omega
 have hn3 : n <= 2000:=by omega
 have hn4 : n < 20000:=by omega
 have hfb : f <= 20000:=by omega
 have b0:=Blk.new w 143 #[.int .i64 f, .int .i64 n, .int .i64 c];have b1:=Blk.new2 w (.cells #[.int .i64 f, .int .i64 n, .int .i64 c] 143) 143 #[.int .i64 0, .int .i64 0, .int .i64 0];have b01:=b0.alloc (.cells #[.int .i64 0, .int .i64 0, .int .i64 0] 143);have hO:=((Only.refl (fun g => g = d \/ g = b \/ g = l) w).alloc (.cells #[.int .i64 f, .int .i64 n, .int .i64 c] 143)).alloc (.cells #[.int .i64 0, .int .i64 0, .int .i64 0] 143);have hN:=hid hn;have HNN:=hid hnn;have HP:=hid hp;have HS:=hid hs;have HD:=hid hD;have HM:=hid hM;have HA:=hid hA;have hlts:=hs.lt;have hltd : d < w.heap.size:=by obtain ⟨_, _, h⟩:=hD.head; exact h.lt
 have hltb:=hD.body.lt;have hltl:=hM.lt;have HK:=hid hkl;clear hn hnn hp hs hD hM hA hkl;unfold extV;go_enter Tryz.func192, Tryz.ntmps192;go_wp2_with fail;go_loopg [7, 8, 11] n (fun k s7 s8 s11 wr => ∃ j : Nat, j + k = n /\ s11 = .int .i64 j /\ DiskAt wr d b (laidP B f bs j) /\ Blk wr w.heap.size 143 #[.int .i64 f, .int .i64 n, .int .i64 c] /\ Blk wr (w.heap.size + 1) 143 #[.int .i64 0, .int .i64 0, .int .i64 0] /\ Only (fun g => g = d \/ g = b) w wr)
 case atStart =>
  refine ⟨0, by omega, rfl, ?_, b01, b1, ((Only.refl (fun g => g = d \/ g = b) w).alloc _).alloc _⟩;have e : laidP B f bs 0 = B:=by simp [laidP]
  rw [e];exact HD.out.only (((Only.refl (fun _ => False) w).alloc _).alloc _) (fun h => h) (fun h => h)
 case round =>
  clear b0 b1 b01 hO;obtain ⟨j, hj, rfl, hDj, bx, bz, hO⟩:=hrel;have hltx:=bx.lt;have x0:=bx.cell 0;have x1:=bx.cell 1;have x2:=bx.cell 2;simp only [qTa, qTb, qTc] at x0 x1 x2;have hsj:=HS.out.only hO (by rintro (h | h); exact h1 h; exact h2 h);have s0:=hsj.cell 0;have s2:=hsj.cell 2;simp only [qTa, qTb, qTc] at s0 s2;cases gk with
  | succ k =>
   have hjn : (j : Int) < n:=by omega
   have h64 : 64 * j < p:=by omega
   have m1 : (j : Int) * 64 <= p:=by omega
   obtain ⟨q, hq⟩ : ∃ q, q = min (64 * j + 64) p:=⟨_, rfl⟩;have hq1 : (if (p : Int) < (j : Int) * 64 + 64 then (p : Int) else (j : Int) * 64 + 64) = q:=by split <;> omega
   have hsrc : ((bs.drop (64 * j)).take 64).length = q - 64 * j:=by rw [List.length_take, List.length_drop, <- HP.out]; omega
   have hYj : Byts wr (some ⟨ab, aoff + 64 * j, none⟩) ((bs.drop (64 * j)).take 64):=by
    intro i v hv;rw [List.getElem?_take] at hv;split at hv
    ·rw [List.getElem?_drop] at hv;obtain ⟨k1, k2, b', off', hA', hl', hc'⟩:=HA.out _ v hv;obtain ⟨rfl, rfl⟩ : b' = ab /\ off' = aoff:=by simpa using hA'.symm
     have hkeep:=hO.block b' hl' (by rintro (h | h); exact hab.1 h; exact hab.2.1 h);refine ⟨k1, k2, b', off' + 64 * j, rfl, Nat.lt_of_lt_of_le hl' hO.size, ?_⟩;rw [show off' + 64 * j + i = off' + (64 * j + i) by omega];have e : wr.cell? ⟨b', off' + (64 * j + i), none⟩ = w.cell? ⟨b', off' + (64 * j + i), none⟩:=by simp [World.cell?, hkeep]
     rw [e]; exact hc'
    ·cases hv
   have hw:=diskWrite_any d b (laidP B f bs j) (f + j) (some ⟨ab, aoff + 64 * j, none⟩) ((bs.drop (64 * j)).take 64) (cap - 64 * j) wr.drew hDj.drew (by rw [laidP_length _ _ _ _ (by omega) (by have:=HNN.out; omega)]; omega) hYj.drew (by rw [hsrc]; omega);rw [hsrc, laidP_next _ _ _ _ (by omega) (by have:=HNN.out; omega) (by have:=HP.out; omega), Int.natCast_add] at hw;have HW:=hid hw;have HO:=hid hO;clear hw hYj hsrc hDj hO;go_upto_region 5 with (fail);obtain ⟨lo, hlo⟩ : ∃ lo : Nat, lo = 64 * j:=⟨_, rfl⟩;have hlo2 : (j : Int) * 64 = lo:=by omega
   rw [hlo2];rw [<- hlo] at HW;have l0 : (0 : Int) <= lo:=by omega
   have l1 : (lo : Int) <= p:=by omega
   have l2 : (p : Int) <= cap:=by omega
   have l3 : (lo : Int) < cap:=by omega
   have l4 : ¬ (cap = lo):=by omega
   have l5 : (lo : Int) < p:=by omega
   have l6 : ¬ ((cap : Int) = lo):=by omega
   clear hlo2 hq1;have hls : s < wr.drew.heap.size:=by have:=HO.out.size; simp; omega
   have hsn : ¬ (s = d \/ s = b):=by rintro (h | h); exact h1 h; exact h2 h
   have hlw : w.heap.size < wr.drew.heap.size:=by simp; omega
   have hwn : ¬ (w.heap.size = d \/ w.heap.size = b):=by omega
   have hwn2 : ¬ (w.heap.size + 1 = d \/ w.heap.size + 1 = b):=by omega
   rcases Nat.lt_or_ge p (64 * j + 64) with hlt | hge
   ·have m2 : ¬ ((lo : Int) + 64 < p):=by omega
    have m3 : (p : Int) < (lo : Int) + 64:=by omega
    have m4 : (p : Int) <= (lo : Int) + 64:=by omega
    have hqp : q = p:=by omega
    have hlen5 : q - lo = p - lo:=by omega
    rw [hlen5] at HW;clear hlo hq;have u1 : IntKind.i64.wrap ((lo : Int) + 64) = (lo : Int) + 64:=wrap_id (by omega);have u2 : IntKind.i64.wrap ((f : Int) + j) = (f : Int) + j:=wrap_id (by omega);clear hqp hlen5;go_region_held3 (fun w' => w'.cell? ⟨s, 0, none⟩ = some (.pointer (some ⟨d, 0, none⟩)) /\ w'.cell? ⟨w.heap.size, 0, none⟩ = some (.int .i64 f))
     (first | go_keep | exact ⟨(hO5.cell hls hsn).trans (show _ /\ _ by assumption).1, (hO5.cell hlw hwn).trans (show _ /\ _ by assumption).2⟩)
     (first | (go_at_call 205; refine HW.out.mono ?_; rintro e w5 ⟨rfl, hD5, hO5⟩))
    have hO6 : Only (fun g => g = d \/ g = b) w w5:=HO.out.trans ((only_drew _ _).trans hO5);have bx6:=(bx.only (only_drew (fun g => g = d \/ g = b) wr) hwn).only hO5 hwn;have bz6:=(bz.only (only_drew (fun g => g = d \/ g = b) wr) hwn2).only hO5 hwn2;clear hO5 HO u1 u2;go_wp2_with fail;go_roundg k
    case measure => omega
    case rel => exact ⟨j + 1, by omega, by go_num, hD5, bx6, bz6, hO6⟩
   ·have m2 : (lo : Int) + 64 <= p:=by omega
    have m3 : ¬ ((p : Int) < (lo : Int) + 64):=by omega
    have m5 : (lo : Int) + 64 <= cap:=by omega
    have m6 : (0 : Int) <= (lo : Int) + 64:=by omega
    have m7 : (lo : Int) <= (lo : Int) + 64:=by omega
    have hlen5 : q - lo = lo + 64 - lo:=by omega
    rw [hlen5] at HW;clear hlo hq hlen5;have u1 : IntKind.i64.wrap ((lo : Int) + 64) = (lo : Int) + 64:=wrap_id (by omega);have u2 : IntKind.i64.wrap ((f : Int) + j) = (f : Int) + j:=wrap_id (by omega);go_region_held3 (fun w' => w'.cell? ⟨s, 0, none⟩ = some (.pointer (some ⟨d, 0, none⟩)) /\ w'.cell? ⟨w.heap.size, 0, none⟩ = some (.int .i64 f))
     (first | go_keep | exact ⟨(hO5.cell hls hsn).trans (show _ /\ _ by assumption).1, (hO5.cell hlw hwn).trans (show _ /\ _ by assumption).2⟩)
     (first | (go_at_call 205; refine HW.out.mono ?_; rintro e w5 ⟨rfl, hD5, hO5⟩))
    have hO6 : Only (fun g => g = d \/ g = b) w w5:=HO.out.trans ((only_drew _ _).trans hO5);have bx6:=(bx.only (only_drew (fun g => g = d \/ g = b) wr) hwn).only hO5 hwn;have bz6:=(bz.only (only_drew (fun g => g = d \/ g = b) wr) hwn2).only hO5 hwn2;clear hO5 HO u1 u2;go_wp2_with fail;go_roundg k
    case measure => omega
    case rel => exact ⟨j + 1, by omega, by go_num, hD5, bx6, bz6, hO6⟩
  | zero =>
   obtain rfl : n = j:=by omega
   have hjn : ¬ ((n : Int) < n):=by omega
   have fx:=bx.frozen;have bx2:=bx.set_ 2 (.int .i64 p);simp only [List.setIfInBounds_toArray, List.set_cons_succ, List.set_cons_zero] at bx2;have hne1 : ¬ (s = w.heap.size):=by omega
   have s3:=(hsj.far (p:=⟨w.heap.size, 2, none⟩) (by simpa using hne1) (.int .i64 p)).cell 2;simp only [qTa, qTb, qTc] at s3;have hM2 : MapAt (wr.setCell ⟨w.heap.size, 2, none⟩ (.int .i64 p)).drew 143 l D :=
    ((HM.out.keep hO (by rintro (h | h); exact h4 h; exact h5 h)).keep ((Only.refl (fun g => g = w.heap.size) wr).setCell (p:=⟨w.heap.size, 2, none⟩) (.inl rfl) (.int .i64 p)) (by omega)).keep (only_drew (fun _ => False) _) (fun h => h)
   obtain ⟨w6, hrun, hM6, hO6⟩:=hM2.store law143 Tryz.underlying176 hsz HK.out (.bool true);unfold extV at hrun;have hOa : Only (fun g => g = d \/ g = b \/ g = l \/ g = w.heap.size) w w6 :=
    (((hO.mono (fun g h => by rcases h with h | h; exact .inl h; exact .inr (.inl h))).setCell (p:=⟨w.heap.size, 2, none⟩) (.inr (Nat.le_refl _)) (.int .i64 p)).trans (only_drew _ _)).trans (hO6.mono (fun g h => .inr (.inr (.inl h))))
   have hDz:=hDj.only ((Only.refl (fun g => g = w.heap.size) wr).setCell (p:=⟨w.heap.size, 2, none⟩) (.inl rfl) (.int .i64 p)) (by omega) (by omega);have bz2:=bz.far (p:=⟨w.heap.size, 2, none⟩) (by simp) (.int .i64 p);go_upto_region 8 with (fail);generalize wr.setCell ⟨w.heap.size, 2, none⟩ (.int .i64 p) = W2 at bx2 bz2 s3 hM2 hrun hO6 hDz ⊢;have y0:=bx2.cell 0;have y1:=bx2.cell 1;have y2:=bx2.cell 2;simp only [qTa, qTb, qTc] at y0 y1 y2;clear x0 x1 x2 s0 s2 fx bx bz hDj hO hM2 hsj;go_region
   have hD6:=(hDz.drew).only hO6 (by omega) (by omega);have bx6:=(bx2.only (only_drew (fun _ => False) W2) (fun h => h)).only hO6 (by omega);have bz6:=(bz2.only (only_drew (fun _ => False) W2) (fun h => h)).only hO6 (by omega);clear y0 y1 y2 s3 hrun hO6;have z0:=bx6.cell 0;have z1:=bx6.cell 1;have z2:=bx6.cell 2;simp only [qTa, qTb, qTc] at z0 z1 z2;have q0:=bz6.cell 0;have q1:=bz6.cell 1;have q2:=bz6.cell 2;simp only [qTa, qTb, qTc] at q0 q1 q2;have f6:=bz6.frozen;go_wp2_with fail;have bz7:=bz6.set111 (.int .i64 f) (.int .i64 n) (.int .i64 p);have hO7:=only_three w6 (w.heap.size + 1) (.int .i64 f) (.int .i64 n) (.int .i64 p);refine bodyPost_ret (results_cell_row rfl _ _ (w.heap.size + 1) 143 _ (0, 0) _ rfl bz7 Tryz.underlying143 rfl size143) rfl ⟨rfl, hD6.only hO7 (by omega) (by omega), hM6.keep hO7 (by omega), ?_⟩;refine Only.shrink (S:=fun g => (g = d \/ g = b \/ g = l \/ g = w.heap.size) \/ g = w.heap.size + 1) ((hOa.mono (fun g h => .inl h)).trans (hO7.mono (fun g h => .inr h))) ?_;rintro g ((h | h | h | h) | h)
   ·exact .inl (.inl h)
   ·exact .inl (.inr (.inl h))
   ·exact .inl (.inr (.inr h))
   ·exact .inr (by omega)
   ·exact .inr (by omega)
end Go.Proofs.YtgaemfghpibeeaaGreatDoor
namespace Go.Proofs.YtgaemfghpibeeaaGreatDoor
open Go.RowKit
def bitN (used k : Nat) : Nat:=2 ^ (min 64 (used - 64 * k)) - 1
def bitCells (nw used : Nat) : Array Value:=((List.range nw).map fun k => Value.int .u64 (bitN used k : Int)).toArray
structure BitsAt (w : World) (m g N used : Nat) : Prop where
 head : Blk w m 223 #[.int .i64 (N : Int), .slice (some ⟨g, 0, none⟩) ((N + 63) / 64) ((N + 63) / 64)]
 body : Blk w g 233 (bitCells ((N + 63) / 64) used)
 ne : m ≠ g
 le : used <= N
 small : N < 20000
theorem BitsAt.only {S : Nat -> Prop} {w w' : World} {m g N used : Nat} (h : BitsAt w m g N used) (ho : Only S w w') (h1 : ¬ S m) (h2 : ¬ S g) : BitsAt w' m g N used :=
 ⟨h.head.only ho h1, h.body.only ho h2, h.ne, h.le, h.small⟩
theorem bitCells_get (nw used k : Nat) (h : k < nw) : (bitCells nw used)[k]? = some (.int .u64 (bitN used k : Int)):=by simp [bitCells, h]
theorem bitN_lt (used k : Nat) : bitN used k < 18446744073709551616:=by unfold bitN;have : 2 ^ (min 64 (used - 64 * k)) <= 2 ^ 64:=Nat.pow_le_pow_right (by omega) (by omega);have : 0 < 2 ^ (min 64 (used - 64 * k)):=Nat.pow_pos (by omega);omega
theorem has_any (m g N used i : Nat) (w : World) (hB : BitsAt w m g N used) (hi : i < N) :
  Calls Tryz.prog 203 #[.pointer (some ⟨m, 0, none⟩), .int .i64 i] w fun e w' => e = .returned (.bool (decide (i < used))) /\ w = w':=by
 have c0:=hB.head.cell 0;have c1:=hB.head.cell 1;simp only [qTa, qTb, qTc] at c0 c1;have cw:=hB.body.cell (i / 64);rw [bitCells_get _ _ _ (by omega)] at cw;obtain ⟨nw, hnw⟩ : ∃ nw, nw = (N + 63) / 64:=⟨_, rfl⟩;rw [<- hnw] at c1;have hin : (i : Int) / 64 < nw:=by omega
 have hs:=hB.small;have hlt:=bitN_lt used (i / 64);obtain ⟨x, hx⟩ : ∃ x, x = bitN used (i / 64):=⟨_, rfl⟩;rw [<- hx] at cw hlt;clear hnw hB;have hr : (bits BinOp.and IntKind.u64 ((x : Int) / 2 ^ (i % 64)) 1 == 1) = decide (i < used):=by
  obtain ⟨q, hq⟩ : ∃ q, q = x / 2 ^ (i % 64):=⟨_, rfl⟩;have hqx : q <= x:=by rw [hq]; exact Nat.div_le_self _ _
  rw [show ((x : Int) / 2 ^ (i % 64)) = ((x / 2 ^ (i % 64) : Nat) : Int) by simp, <- hq, and_one_u64 _ (by omega) (by omega)];have h1 : decide (x / 2 ^ (i % 64) % 2 = 1) = decide (i < used):=by
   rw [<- Nat.testBit_eq_decide_div_mod_eq, hx, bitN, Nat.testBit_two_pow_sub_one];by_cases h : i < used
   ·rw [decide_eq_true h, decide_eq_true]; omega
   ·rw [decide_eq_false h, decide_eq_false]; omega
  rw [<- h1, <- hq];by_cases h : q % 2 = 1
  ·rw [decide_eq_true h, beq_iff_eq]; omega
  ·rw [decide_eq_false h, beq_eq_false_iff_ne]; omega
 rw [hx] at hr;have HR:=hid hr;clear hr;go_enter Tryz.func203, Tryz.ntmps203;go_wp2;go_ret;rw [HR.out];exact ⟨rfl, rfl⟩
def on1 (x : Int) : Int:=IntKind.u64.wrap (bits BinOp.and IntKind.u64 (x / 2) 6148914691236517205 + bits BinOp.and IntKind.u64 x 6148914691236517205)
def on2 (x : Int) : Int:=IntKind.u64.wrap (bits BinOp.and IntKind.u64 (x / 4) 3689348814741910323 + bits BinOp.and IntKind.u64 x 3689348814741910323)
def on3 (x : Int) : Int:=bits BinOp.and IntKind.u64 (IntKind.u64.wrap (x / 16 + x)) 1085102592571150095
def on4 (x : Int) : Int:=IntKind.u64.wrap (x + x / 256)
def on5 (x : Int) : Int:=IntKind.u64.wrap (x + x / 65536)
def on6 (x : Int) : Int:=IntKind.u64.wrap (x + x / 4294967296)
def onesF (x : Int) : Int:=bits BinOp.and IntKind.i64 (wrap64 (on6 (on5 (on4 (on3 (on2 (on1 x))))))) 127
theorem ones_pow : ∀ a : Nat, a < 65 -> onesF ((2 ^ a - 1 : Nat) : Int) = a:=by decide +kernel
theorem ones_any (x : Int) (w : World) :
  Calls Tryz.prog 118 #[.int .u64 x] w fun e w' => e = .returned (.int .i64 (onesF x)) /\ w = w':=by
 go_enter Tryz.func118, Tryz.ntmps118;go_wp2;go_ret;exact ⟨rfl, rfl⟩
theorem taken_any (m g N used : Nat) (w : World) (hB : BitsAt w m g N used) :
  Calls Tryz.prog 101 #[.pointer (some ⟨m, 0, none⟩)] w fun e w' => e = .returned (.int .i64 used) /\ w = w':=by
 have c1:=hB.head.cell 1;simp only [qTa, qTb, qTc] at c1;have hle:=hB.le;have hs:=hB.small;obtain ⟨nw, hnw⟩ : ∃ nw, nw = (N + 63) / 64:=⟨_, rfl⟩;have hbody:=hB.body;rw [<- hnw] at c1 hbody;have hn1 : nw <= 400:=by omega
 have HB:=hid hbody;have HN:=hid hnw;clear hnw hB hbody;go_enter Tryz.func101, Tryz.ntmps101;go_wp2_with fail;go_loopg [3, 5, 13] nw (fun k s3 s5 s13 wr => ∃ j : Nat, j + k = nw /\ s13 = .int .i64 j /\ s3 = .int .i64 (min used (64 * j) : Nat) /\ wr = w)
 case atStart => exact ⟨0, by omega, rfl, by simp, rfl⟩
 case round =>
  obtain ⟨j, hj, rfl, rfl, hwr⟩:=hrel;subst wr;cases gk with
  | zero =>
   have hjn : ¬ ((j : Int) < nw):=by omega
   have e : min used (64 * j) = used:=by have:=HN.out; omega
   rw [e];clear e;go_wp2;go_ret;exact ⟨rfl, rfl⟩
  | succ k =>
   have hjn : (j : Int) < nw:=by omega
   have cw:=HB.out.cell j;rw [bitCells_get _ _ _ (by omega)] at cw;have ho:=ones_any (bitN used j : Int) w;have hp:=ones_pow (min 64 (used - 64 * j)) (by omega);rw [show ((2 ^ (min 64 (used - 64 * j)) - 1 : Nat) : Int) = (bitN used j : Int) from rfl] at hp;rw [hp] at ho;have HO:=hid ho;have hsum : min used (64 * j) + min 64 (used - 64 * j) = min used (64 * (j + 1)):=by omega
   have HS:=hid hsum;obtain ⟨p, hp⟩ : ∃ p, p = min used (64 * j):=⟨_, rfl⟩;obtain ⟨q, hq⟩ : ∃ q, q = min 64 (used - 64 * j):=⟨_, rfl⟩;rw [<- hp, <- hq] at HS;rw [<- hq] at HO;rw [<- hp];have hp1 : p <= 20000:=by omega
   have hq1 : q <= 64:=by omega
   obtain ⟨x, hx⟩ : ∃ x, x = bitN used j:=⟨_, rfl⟩;rw [<- hx] at cw HO;clear ho hp hq hsum hx;go_wp2_with fail;refine HO.out.mono ?_;rintro e w' ⟨rfl, rfl⟩;go_wp2;go_roundg k
   case measure => omega
   case rel => exact ⟨j + 1, by omega, by go_num, by rw [<- HS.out]; go_num, rfl⟩
theorem xor_pow : ∀ r : Nat, r < 64 -> bits BinOp.xor IntKind.u64 ((2 ^ r - 1 : Nat) : Int) ((2 ^ r : Nat) : Int) = ((2 ^ (r + 1) - 1 : Nat) : Int):=by decide +kernel
theorem wrap_pow : ∀ r : Nat, r < 64 -> IntKind.u64.wrap ((2 : Int) ^ r) = ((2 ^ r : Nat) : Int):=by decide +kernel
theorem bitCells_set (nw used : Nat) : (bitCells nw used).setIfInBounds (used / 64) (.int .u64 (bitN (used + 1) (used / 64) : Int)) = bitCells nw (used + 1):=by
 unfold bitCells;rw [List.setIfInBounds_toArray]
 congr 1;apply List.ext_getElem?
 intro k;rw [List.getElem?_set];by_cases hk : k < nw
 ·by_cases e : used / 64 = k
  ·subst e; simp [hk]
  ·rw [if_neg e];simp only [List.getElem?_map, List.getElem?_range hk, Option.map_some];have : bitN used k = bitN (used + 1) k:=by
    unfold bitN
    congr 2;omega
   rw [this]
 ·by_cases e : used / 64 = k
  ·subst e; simp [hk]
  ·rw [if_neg e]; simp [hk]
theorem bitN_mid (used : Nat) : bitN used (used / 64) = 2 ^ (used % 64) - 1 /\ bitN (used + 1) (used / 64) = 2 ^ (used % 64 + 1) - 1:=by
 unfold bitN;have e1 : min 64 (used - 64 * (used / 64)) = used % 64:=by omega
 have e2 : min 64 (used + 1 - 64 * (used / 64)) = used % 64 + 1:=by omega
 rw [e1, e2];exact ⟨rfl, rfl⟩
theorem change_any (m g N used n : Nat) (w : World) (hB : BitsAt w m g N used) (hn : 1 <= n) (hfit : used + n <= N) :
  Calls Tryz.prog 204 #[.pointer (some ⟨m, 0, none⟩), .int .i64 used, .int .i64 n, .bool false, .int .i64 3] w fun e w' => e = .returned (.int .i64 0) /\ BitsAt w' m g N (used + n) /\ Only (fun k => k = g) w w':=by
 have c0:=hB.head.cell 0;simp only [qTa, qTb] at c0;have hs:=hB.small;have HB:=hid hB;clear hB;have g1 : ¬ ((N : Int) - used < n):=by omega
 have g2 : ¬ ((N : Int) < used):=by omega
 go_enter Tryz.func204, Tryz.ntmps204;go_wp2_with fail;go_loopg [11, 43] n (fun k s11 s43 wr => ∃ j : Nat, j + k = n /\ s43 = .int .i64 j /\ wr = w)
 case atStart => exact ⟨0, by omega, rfl, rfl⟩
 case round =>
  obtain ⟨j, hj, rfl, hwr⟩:=hrel;subst wr;cases gk with
  | succ k =>
   have hjn : (j : Int) < n:=by omega
   have hh:=has_any m g N used (used + j) w HB.out (by omega);rw [decide_eq_false (by omega), Int.natCast_add] at hh;have HH:=hid hh;clear hh;go_wp2_with fail;refine HH.out.mono ?_;rintro e w' ⟨rfl, rfl⟩;go_wp2_with fail;go_roundg k
   case measure => omega
   case rel => exact ⟨j + 1, by omega, by go_num, rfl⟩
  | zero =>
   have hjn : ¬ ((j : Int) < n):=by omega
   clear hj;go_wp2_with fail;go_loopg [12, 13, 56] n (fun k t12 t13 t56 wr => ∃ i : Nat, i + k = n /\ t56 = .int .i64 i /\ BitsAt wr m g N (used + i) /\ Only (fun k => k = g) w wr)
   case atStart => exact ⟨0, by omega, rfl, HB.out, Only.refl _ _⟩
   case round =>
    obtain ⟨i, hi, rfl, hB, hO⟩:=hrel;cases gk with
    | zero =>
     obtain rfl : n = i:=by omega
     have hin : ¬ ((n : Int) < n):=by omega
     go_wp2_with fail;go_ret;exact ⟨rfl, hB, hO⟩
    | succ k =>
     have hin : (i : Int) < n:=by omega
     have c1:=hB.head.cell 1;simp only [qTa, qTb, qTc] at c1;have cw:=hB.body.cell ((used + i) / 64);rw [bitCells_get _ _ _ (by omega)] at cw;have fw:=hB.body.frozen;obtain ⟨nw, hnw⟩ : ∃ nw, nw = (N + 63) / 64:=⟨_, rfl⟩;rw [<- hnw] at c1;have hhead:=hB.head;have hne:=hB.ne;have hb:=hB.body.set_ ((used + i) / 64) (.int .u64 (bitN (used + i + 1) ((used + i) / 64) : Int));rw [bitCells_set] at hb;obtain ⟨u, hu⟩ : ∃ u, u = used + i:=⟨_, rfl⟩;have hui : (used : Int) + i = u:=by omega
     obtain ⟨e1, e2⟩:=bitN_mid u;rw [<- hu] at cw hb;have hx:=xor_pow (u % 64) (by omega);rw [<- e2] at hx;rw [e1] at cw;have hun : (u : Int) / 64 < nw:=by omega
     have hu0 : (0 : Int) <= (u : Int) / 64:=by omega
     have HX:=hid hx;have HU:=hid hui;have hul : u < 20000:=by omega
     have hbd : (used : Int) + i < 20000:=by omega
     have hu2 : u + 1 = used + (i + 1):=by omega
     clear hx e1 e2 hui hu hnw;have HU2:=hid hu2;clear hu2;go_upto_region 15 with (fail);rw [HU.out];go_region
     rw [wrap_pow _ (by omega), HX.out];have hB2 : BitsAt (wr.setCell ⟨g, u / 64, none⟩ (.int .u64 (bitN (u + 1) (u / 64) : Int))).drew m g N (used + (i + 1)) :=
      ⟨hhead.far hne _, by rw [<- HU2.out]; exact hb, hne, by have:=HU2.out; omega, hs⟩
     have hO2 : Only (fun k => k = g) w (wr.setCell ⟨g, u / 64, none⟩ (.int .u64 (bitN (u + 1) (u / 64) : Int))).drew:=(hO.setCell (.inl rfl) _).drewN 1;clear hb;go_wp2_with fail;go_roundg k
     case measure => omega
     case rel => exact ⟨i + 1, by omega, by go_num, hB2, hO2⟩
theorem take_any (m g N used n : Nat) (w : World) (hB : BitsAt w m g N used) (hn : 1 <= n) (hfit : used + n <= N) :
  Calls Tryz.prog 191 #[.pointer (some ⟨m, 0, none⟩), .int .i64 used, .int .i64 n] w fun e w' => e = .returned (.int .i64 0) /\ BitsAt w' m g N (used + n) /\ Only (fun k => k = g) w w':=by
 have hc:=hid (change_any m g N used n w hB hn hfit);go_enter Tryz.func191, Tryz.ntmps191;go_wp2_with fail;refine hc.out.mono ?_;rintro e w' ⟨rfl, h1, h2⟩;go_wp2;go_ret;exact ⟨rfl, h1, h2⟩
theorem Tryz.info233 : (Tryz.prog.info? 233).map (fun i => (i.zero, i.size, i.bytes)) = some (some (.int .u64 0), 1, 8):=by kernel_rfl
theorem make_u64 (n : Nat) (hn : n <= 100000) (W : World) : (Instr.makeSlice 221 (.int .i64 (n : Int)) (.int .i64 (n : Int))).run Tryz.prog W = .ok (.slice (some ⟨W.heap.size, 0, none⟩) n n) (W.alloc (.cells (bitCells n 0) 233)):=by
 obtain ⟨i0, hi, hz0, hz1, hz2⟩:=info_parts Tryz.info233;have h:=run_make (P:=Tryz.prog) W 221 233 i0 (.int .u64 0) Tryz.underlying221 hi hz0 .i64 .i64 n n (by omega) (by omega) (by rw [hz2]; omega) (by omega);rw [h, hz1];simp only [Int.toNat_natCast];have e : madeCells (Value.int .u64 0).cells (n * 1) = bitCells n 0:=by
  rw [show (Value.int .u64 0).cells = #[Value.int .u64 0] from rfl, made_one];unfold bitCells
  congr 1;apply List.ext_getElem?
  intro j;by_cases hj : j < n
  ·simp [hj, bitN]
  ·simp [hj]
 rw [e]
theorem bitsNew_any (n : Nat) (hn : n < 20000) (w : World) :
  Calls Tryz.prog 76 #[.int .i64 n] w fun e w' => ∃ m g, e = .returned (.tuple #[.pointer (some ⟨m, 0, none⟩), .int .i64 0]) /\ BitsAt w' m g n 0 /\ w.heap.size <= m /\ w.heap.size <= g /\ Below w.heap.size w w':=by
 have hmk:=make_u64 ((n + 63) / 64) (by omega) w;have e : (((n + 63) / 64 : Nat) : Int) = ((n : Int) + 64 - 1) / 64:=by omega
 rw [e] at hmk;obtain ⟨nw, hm⟩ : ∃ m, m = (n + 63) / 64:=⟨_, rfl⟩;rw [<- hm] at hmk;have HM:=hid hm;clear hm e;go_enter Tryz.func76, Tryz.ntmps76;go_wp2;go_ret2;have b0:=(Blk.new w 233 (bitCells nw 0)).alloc (.cells #[.int .i64 n, .slice (some ⟨w.heap.size, 0, none⟩) nw nw] 223);have b1:=Blk.new2 w (.cells (bitCells nw 0) 233) 223 #[.int .i64 n, .slice (some ⟨w.heap.size, 0, none⟩) nw nw];have hb:=((Below.refl w.heap.size w).alloc (Nat.le_refl _) (.cells (bitCells nw 0) 233)).alloc (by simp) (.cells #[.int .i64 n, .slice (some ⟨w.heap.size, 0, none⟩) nw nw] 223);rw [HM.out] at b0 b1 hb ⊢;exact ⟨w.heap.size + 1, w.heap.size, rfl, ⟨b1, b0, by omega, by omega, hn⟩, by omega, Nat.le_refl _, hb⟩
theorem first_any (m g N used n : Nat) (w : World) (hB : BitsAt w m g N used) (hn : 1 <= n) (hn2 : n <= 20000) :
  Calls Tryz.prog 190 #[.pointer (some ⟨m, 0, none⟩), .int .i64 n] w fun e w' => e = .returned (.tuple #[.int .i64 (if used + n <= N then used else 0 : Nat), .bool (decide (used + n <= N))]) /\ w = w':=by
 have c0:=hB.head.cell 0;simp only [qTa, qTb] at c0;have hle:=hB.le;have hs:=hB.small;have HB:=hid hB;clear hB;go_enter Tryz.func190, Tryz.ntmps190;go_wp2_with fail;go_step3
 go_wp2_with fail;go_step3
 go_wp2_with fail;go_loopg [6, 7] used (fun k s6 s7 wr => ∃ f : Nat, f + k = used /\ s6 = .int .i64 f /\ wr = w)
 case atStart => exact ⟨0, by omega, rfl, rfl⟩
 case round =>
  obtain ⟨f, hf, rfl, hwr⟩:=hrel;subst wr;by_cases hfit : f + n <= N
  ·have hfit2 : (n : Int) <= (N : Int) - f:=by omega
   go_wp2_with fail;go_loopg [6, 7] n (fun k2 t6 t7 wi => t6 = .int .i64 f /\ t7 = .int .i64 ((k2 : Int) - 1) /\ wi = w /\ k2 <= n /\ (k2 = n \/ used <= f + k2))
   case atStart => exact ⟨rfl, rfl, rfl, Nat.le_refl _, .inl rfl⟩
   case round =>
    obtain ⟨rfl, rfl, hwi, hkn, hk⟩:=hrel;subst wr;cases gk with
    | zero =>
     obtain rfl : f = used:=by omega
     go_wp2_with fail;rw [Exit.noGoto_ret];go_ret2;rw [if_pos hfit, decide_eq_true hfit];exact ⟨rfl, rfl⟩
    | succ q =>
     have e : ((q + 1 : Nat) : Int) - 1 = q:=by omega
     rw [e];have hh:=has_any m g N used (f + q) w HB.out (by omega);rw [Int.natCast_add] at hh;by_cases hu : f + q < used
     ·rw [decide_eq_true hu] at hh;have HH:=hid hh;clear hh e;go_wp2_with fail;refine HH.out.mono ?_;rintro e w' ⟨rfl, rfl⟩;go_wp2_with fail;go_roundg (used - (f + q + 1))
      case measure => omega
      case rel => exact ⟨f + q + 1, by omega, by go_num, rfl⟩
     ·rw [decide_eq_false hu] at hh;have HH:=hid hh;clear hh e;go_wp2_with fail;refine HH.out.mono ?_;rintro e w' ⟨rfl, rfl⟩;go_wp2_with fail;go_roundg q
      case measure => omega
      case rel => exact ⟨rfl, by go_num, rfl, by omega, .inr (by omega)⟩
  ·have hfit2 : ¬ ((n : Int) <= (N : Int) - f):=by omega
   go_wp2_with fail;go_ret2;exact ⟨rfl, rfl⟩
end Go.Proofs.YtgaemfghpibeeaaGreatDoor
namespace Go.Proofs.YtgaemfghpibeeaaGreatDoor
open Go.RowKit Go.Maps
def rowsLen (rows : List (List Int)) : Nat:=(rows.map fun r => secs r.length).sum
def flatR (rows : List (List Int)) : List Int:=rows.flatMap padS
theorem rowsLen_append (a b : List (List Int)) : rowsLen (a ++ b) = rowsLen a + rowsLen b:=by simp [rowsLen]
theorem flatR_append (a b : List (List Int)) : flatR (a ++ b) = flatR a ++ flatR b:=by simp [flatR]
theorem flatR_length (rows : List (List Int)) : (flatR rows).length = 64 * rowsLen rows:=by
 induction rows with
 | nil => rfl
 | cons r rows ih => have e : flatR (r :: rows) = padS r ++ flatR rows:=rfl;have e2 : rowsLen (r :: rows) = secs r.length + rowsLen rows:=rfl;rw [e, e2, length_append, padS_length, ih]; omega
theorem secs_pos (n : Nat) : 1 <= secs n:=by unfold secs; omega
theorem rowsLen_ge (rows : List (List Int)) : rows.length <= rowsLen rows:=by
 induction rows with
 | nil => simp [rowsLen]
 | cons r rows ih => have e2 : rowsLen (r :: rows) = secs r.length + rowsLen rows:=rfl;have:=secs_pos r.length;rw [e2, List.length_cons]; omega
def diskR (N : Nat) (rows : List (List Int)) : List Int:=flatR rows ++ List.replicate (64 * (N - rowsLen rows)) 0
theorem diskR_length (N : Nat) (rows : List (List Int)) (h : rowsLen rows <= N) : (diskR N rows).length = 64 * N:=by unfold diskR; rw [length_append, flatR_length, length_replicate]; omega
def fromR (rows : List (List Int)) (i : Nat) : Nat:=rowsLen (rows.take i)
theorem split_at {rows : List (List Int)} {i : Nat} {r : List Int} (h : rows[i]? = some r) : rows = rows.take i ++ (r :: rows.drop (i + 1)):=by
 have hj:=(List.getElem?_eq_some_iff.1 h).1;have h1 : rows[i] = r:=by rw [getElem?_eq_getElem hj] at h; exact Option.some.inj h
 rw [<- h1, List.getElem_cons_drop, List.take_append_drop]
theorem fromR_fit {rows : List (List Int)} {i : Nat} {r : List Int} (h : rows[i]? = some r) : fromR rows i + secs r.length <= rowsLen rows:=by
 have e:=split_at h;have : rowsLen rows = rowsLen (rows.take i) + (secs r.length + rowsLen (rows.drop (i + 1))):=by
  conv => lhs; rw [e]
  rw [rowsLen_append]; rfl
 unfold fromR; omega
theorem diskR_row {N : Nat} {rows : List (List Int)} {i : Nat} {r : List Int} (h : rows[i]? = some r) (j : Nat) (hj : j <= secs r.length) :
  ((diskR N rows).drop (64 * fromR rows i)).take (64 * j) = (padS r).take (64 * j):=by
 have e:=split_at h;have hf : flatR rows = flatR (rows.take i) ++ (padS r ++ flatR (rows.drop (i + 1))):=by
  conv => lhs; rw [e]
  rw [flatR_append]; rfl
 unfold diskR;rw [hf, List.append_assoc, List.drop_left' (by rw [flatR_length]; rfl), List.append_assoc, List.take_append_of_le_length (by rw [padS_length]; omega)]
theorem laidP_put {N : Nat} {rows : List (List Int)} {bs : List Int} (h : rowsLen rows + secs bs.length <= N) : laidP (diskR N rows) (rowsLen rows) bs (secs bs.length) = diskR N (rows ++ [bs]):=by
 have hl:=flatR_length rows;have hT : (padS bs).take (64 * secs bs.length) = padS bs:=take_of_length_le (by rw [padS_length]; exact Nat.le_refl _);unfold laidP diskR;rw [List.take_left' hl, hT, Nat.mul_add, <- List.drop_drop, List.drop_left' hl, List.drop_replicate, flatR_append, rowsLen_append, List.append_assoc];have e1 : flatR [bs] = padS bs:=by simp [flatR]
 have e2 : rowsLen [bs] = secs bs.length:=by simp [rowsLen]
 rw [e1, e2]
 congr 3;omega
theorem rowsLen_set {rows : List (List Int)} {i : Nat} {r bs : List Int} (h : rows[i]? = some r) (hl : bs.length = r.length) : rowsLen (rows.set i bs) = rowsLen rows /\ ∀ k, fromR (rows.set i bs) k = fromR rows k:=by
 have key : (rows.set i bs).map List.length = rows.map List.length:=by
  apply List.ext_getElem?
  intro k;rw [List.getElem?_map, List.getElem?_map, List.getElem?_set];by_cases e : i = k
  ·subst e;have hj:=(List.getElem?_eq_some_iff.1 h).1;rw [if_pos rfl, if_pos hj, h]; simp [hl]
  ·rw [if_neg e]
 have gen : ∀ l : List (List Int), rowsLen l = ((l.map List.length).map secs).sum:=by intro l; simp [rowsLen, Function.comp_def]
 refine ⟨by rw [gen, gen, key], fun k => ?_⟩;unfold fromR;rw [gen, gen];simp only [List.map_take, key]
theorem laidP_set {N : Nat} {rows : List (List Int)} {i : Nat} {r bs : List Int} (h : rows[i]? = some r) (hl : bs.length = r.length) : laidP (diskR N rows) (fromR rows i) bs (secs bs.length) = diskR N (rows.set i bs):=by
 have e:=split_at h;have hi:=(List.getElem?_eq_some_iff.1 h).1;have hf : flatR rows = flatR (rows.take i) ++ (padS r ++ flatR (rows.drop (i + 1))):=by
  conv => lhs; rw [e]
  rw [flatR_append]; rfl
 have hs : rows.set i bs = rows.take i ++ (bs :: rows.drop (i + 1)):=by rw [List.set_eq_take_append_cons_drop, if_pos hi]
 have hf2 : flatR (rows.set i bs) = flatR (rows.take i) ++ (padS bs ++ flatR (rows.drop (i + 1))):=by rw [hs, flatR_append]; rfl
 have l1 : (flatR (rows.take i)).length = 64 * fromR rows i:=flatR_length _;have l2 : (padS r).length = 64 * secs bs.length:=by rw [padS_length, hl]
 have hT : (padS bs).take (64 * secs bs.length) = padS bs:=take_of_length_le (by rw [padS_length]; exact Nat.le_refl _);unfold laidP diskR;rw [(rowsLen_set h hl).1, hf, hf2, List.append_assoc, List.take_left' l1, hT, Nat.mul_add, <- List.drop_drop, List.drop_left' l1, List.append_assoc, List.drop_left' l2];simp only [List.append_assoc]
structure SpP where
 s : Nat
 d : Nat
 b : Nat
 m : Nat
 g : Nat
 l : Nat
def SpP.set (P : SpP) (k : Nat) : Prop:=k = P.s \/ k = P.d \/ k = P.b \/ k = P.m \/ k = P.g \/ k = P.l
structure SpaceAt (w : World) (P : SpP) (N : Nat) (rows : List (List Int)) : Prop where
 head : Blk w P.s 178 #[.pointer (some ⟨P.d, 0, none⟩), .pointer (some ⟨P.m, 0, none⟩), .map (some P.l)]
 disk : DiskAt w P.d P.b (diskR N rows)
 bits : BitsAt w P.m P.g N (rowsLen rows)
 live : ∃ D, MapAt w 143 P.l D /\ Maps.size D <= rows.length /\ ∀ i r, rows[i]? = some r -> ∀ kl, keyOf Tryz.prog 143 (extV (fromR rows i) (secs r.length) r.length) = some kl -> D.atKey kl (.held (.bool false)) = .held (.bool true)
 apart : [P.s, P.d, P.b, P.m, P.g, P.l].Nodup
 rowsOk : ∀ r ∈ rows, 1 <= r.length /\ r.length <= 10000
theorem SpaceAt.only {S : Nat -> Prop} {w w' : World} {P : SpP} {N : Nat} {rows : List (List Int)} (h : SpaceAt w P N rows) (ho : Only S w w') (hs : ∀ k, P.set k -> ¬ S k) : SpaceAt w' P N rows:=by
 obtain ⟨D, hM, h1, h2⟩:=h.live;exact ⟨h.head.only ho (hs _ (.inl rfl)), h.disk.only ho (hs _ (.inr (.inl rfl))) (hs _ (.inr (.inr (.inl rfl)))), h.bits.only ho (hs _ (.inr (.inr (.inr (.inl rfl))))) (hs _ (.inr (.inr (.inr (.inr (.inl rfl)))))),
  ⟨D, hM.keep ho (hs _ (.inr (.inr (.inr (.inr (.inr rfl)))))), h1, h2⟩, h.apart, h.rowsOk⟩
theorem SpaceAt.lt {w : World} {P : SpP} {N : Nat} {rows : List (List Int)} (h : SpaceAt w P N rows) : ∀ k, P.set k -> k < w.heap.size:=by
 obtain ⟨D, hM, _⟩:=h.live;obtain ⟨_, _, hd⟩:=h.disk.head;rintro k (rfl | rfl | rfl | rfl | rfl | rfl)
 ·exact h.head.lt
 ·exact hd.lt
 ·exact h.disk.body.lt
 ·exact h.bits.head.lt
 ·exact h.bits.body.lt
 ·exact hM.lt
theorem SpP.ne {P : SpP} (h : [P.s, P.d, P.b, P.m, P.g, P.l].Nodup) : (P.s ≠ P.d /\ P.s ≠ P.b /\ P.s ≠ P.m /\ P.s ≠ P.g /\ P.s ≠ P.l) /\ (P.d ≠ P.b /\ P.d ≠ P.m /\ P.d ≠ P.g /\ P.d ≠ P.l) /\ (P.b ≠ P.m /\ P.b ≠ P.g /\ P.b ≠ P.l) /\ (P.m ≠ P.g /\ P.m ≠ P.l) /\ P.g ≠ P.l:=by simp only [List.nodup_cons, List.mem_cons, List.not_mem_nil, or_false, not_or] at h;obtain ⟨h1, h2, h3, h4, h5, _⟩:=h;exact ⟨h1, h2, h3, h4, h5⟩
theorem fromR_bd {w : World} {P : SpP} {N : Nat} {rows : List (List Int)} (h : SpaceAt w P N rows) {i : Nat} {r : List Int} (hi : rows[i]? = some r) : fromR rows i + secs r.length <= N /\ secs r.length <= 200 /\ N < 20000 /\ 1 <= r.length /\ r.length <= 10000:=by have h1:=fromR_fit hi;have h2:=h.bits.le;have h3:=h.rowsOk r (mem_of_getElem? hi);refine ⟨by omega, ?_, h.bits.small, h3⟩;unfold secs; omega
theorem SpaceAt.key {w : World} {P : SpP} {N : Nat} {rows : List (List Int)} (h : SpaceAt w P N rows) {i : Nat} {r : List Int} (hi : rows[i]? = some r) : ∃ kl, keyOf Tryz.prog 143 (extV (fromR rows i) (secs r.length) r.length) = some kl:=by have:=fromR_bd h hi;exact keyE (by omega) (by omega) (by omega)
theorem sectors_any (n : Nat) (hn : n <= 1000000) (w : World) : Calls Tryz.prog 189 #[.int .i64 n] w fun e w' => e = .returned (.int .i64 (secs n : Nat)) /\ w = w':=by
 rcases Nat.eq_zero_or_pos n with h0 | h0
 ·subst h0;go_enter Tryz.func189, Tryz.ntmps189;go_wp2;go_ret;exact ⟨rfl, rfl⟩
 ·have e : ((secs n : Nat) : Int) = ((n : Int) + 64 - 1) / 64:=by unfold secs; omega
  have h1 : ¬ (((n : Int) + 64 - 1) / 64 < 1):=by omega
  have h2 : (1 : Int) <= ((n : Int) + 64 - 1) / 64:=by omega
  rw [e];clear e;go_enter Tryz.func189, Tryz.ntmps189;go_wp2;go_ret;exact ⟨rfl, rfl⟩
theorem extNew_any (N : Nat) (hN : N < 20000) (w : World) :
  Calls Tryz.prog 45 #[.int .i64 N] w fun e w' => ∃ P : SpP, e = .returned (.tuple #[.pointer (some ⟨P.s, 0, none⟩), .int .i64 0]) /\ SpaceAt w' P N [] /\ (∀ k, P.set k -> w.heap.size <= k) /\ Below w.heap.size w w':=by
 have hmm:=@run_makeMap Tryz.prog;go_enter Tryz.func45, Tryz.ntmps45;go_wp2_with fail;refine (diskNew_any N hN _).mono ?_;rintro e w1 ⟨d, b, rfl, hD, hd1, hb1, hbl1⟩;go_wp2_with fail;refine (bitsNew_any N hN _).mono ?_;rintro e w2 ⟨m, g, rfl, hB, hm, hg, hbl2⟩;have hlb:=hD.body.lt;have hld : d < w1.heap.size:=by obtain ⟨_, _, h⟩:=hD.head; exact h.lt
 have hlm:=hB.head.lt;have hlg:=hB.body.lt;have hne:=hD.ne;have hne2:=hB.ne;have hz2:=hbl2.size;have hM:=MapAt.made w2 143;have hO : Only (fun _ => False) w2 ((w2.alloc (.map #[] 0)).alloc (.cells #[.pointer (some ⟨d, 0, none⟩), .pointer (some ⟨m, 0, none⟩), .map (some w2.heap.size)] 178)):=((Only.refl _ _).alloc _).alloc _;have b0 : Blk ((w2.alloc (.map #[] 0)).alloc (.cells #[.pointer (some ⟨d, 0, none⟩), .pointer (some ⟨m, 0, none⟩), .map (some w2.heap.size)] 178)) (w2.heap.size + 1) 178 #[.pointer (some ⟨d, 0, none⟩), .pointer (some ⟨m, 0, none⟩), .map (some w2.heap.size)]:=by
  have:=Blk.new (w2.alloc (.map #[] 0)) 178 #[.pointer (some ⟨d, 0, none⟩), .pointer (some ⟨m, 0, none⟩), .map (some w2.heap.size)];have e : (w2.alloc (.map #[] 0)).heap.size = w2.heap.size + 1:=by simp
  rwa [e] at this
 have hM2:=hM.keep ((Only.refl (fun _ => False) _).alloc (.cells #[.pointer (some ⟨d, 0, none⟩), .pointer (some ⟨m, 0, none⟩), .map (some w2.heap.size)] 178)) (fun h => h);have hD2:=(hD.only (only_of hbl2 (fun _ => False)) (fun h => h) (fun h => h)).only hO (fun h => h) (fun h => h);have hB2:=hB.only hO (fun h => h) (fun h => h);have hbl:=((hbl1.trans (hbl2.mono hbl1.size)).alloc (by have:=hbl1.size; omega) (.map #[] 0)).alloc (by have:=hbl1.size; simp; omega) (.cells #[.pointer (some ⟨d, 0, none⟩), .pointer (some ⟨m, 0, none⟩), .map (some w2.heap.size)] 178);have hz1:=hbl1.size;clear hM hO hD hB hbl2 hbl1;go_wp2_with fail;go_ret2;refine ⟨⟨w2.heap.size + 1, d, b, m, g, w2.heap.size⟩, rfl, ⟨b0, hD2, hB2, ⟨.map [], hM2, by simp [Maps.size], by simp⟩, ?_, by simp⟩, ?_, hbl⟩
 ·simp only [List.nodup_cons, List.mem_cons, List.not_mem_nil, or_false, not_or, not_false_eq_true, List.nodup_nil, and_true];omega
 ·rintro k (rfl | rfl | rfl | rfl | rfl | rfl) <;> first | omega | (dsimp only; omega)
theorem extUsed_any (P : SpP) (N : Nat) (rows : List (List Int)) (w : World) (h : SpaceAt w P N rows) :
  Calls Tryz.prog 68 #[.pointer (some ⟨P.s, 0, none⟩)] w fun e w' => e = .returned (.int .i64 (rowsLen rows : Nat)) /\ w = w':=by
 have c1:=h.head.cell 1;simp only [qTa, qTb, qTc] at c1;have ht:=hid (taken_any P.m P.g N (rowsLen rows) w h.bits);go_enter Tryz.func68, Tryz.ntmps68;go_wp2_with fail;refine ht.out.mono ?_;rintro e w' ⟨rfl, rfl⟩;go_wp2;go_ret;exact ⟨rfl, rfl⟩
theorem lives_any (P : SpP) (N : Nat) (rows : List (List Int)) (i : Nat) (r : List Int) (w : World) (h : SpaceAt w P N rows) (hi : rows[i]? = some r) :
  Calls Tryz.prog 94 #[.pointer (some ⟨P.s, 0, none⟩), extV (fromR rows i) (secs r.length) r.length] w fun e w' => e = .returned (.int .i64 0) /\ Below w.heap.size w w':=by
 obtain ⟨kl, hkl⟩:=h.key hi;obtain ⟨D, hM, _, hat⟩:=h.live;have hat:=hat i r hi kl hkl;have hb:=(Below.refl w.heap.size w).alloc (Nat.le_refl _) (.cells #[.int .i64 (fromR rows i : Nat), .int .i64 (secs r.length : Nat), .int .i64 (r.length : Nat)] 143);have hO:=only_of hb (fun _ => False);have c2:=(h.head.only hO (fun h => h)).cell 2;simp only [qTa, qTb, qTc] at c2;have hM2:=(hM.keep hO (fun h => h)).drew;obtain ⟨v, hrun, hv⟩:=hM2.look law143 Tryz.underlying176 (z:=.bool false) (by kernel_rfl) hkl;rw [hat] at hv;injection hv with hv;subst hv;have bx:=(Blk.new w 143 #[.int .i64 (fromR rows i : Nat), .int .i64 (secs r.length : Nat), .int .i64 (r.length : Nat)]);have x0:=bx.cell 0;have x1:=bx.cell 1;have x2:=bx.cell 2;simp only [qTa, qTb, qTc] at x0 x1 x2;unfold extV at hrun ⊢;obtain ⟨f, hf⟩ : ∃ f, f = fromR rows i:=⟨_, rfl⟩;obtain ⟨n, hn⟩ : ∃ f, f = secs r.length:=⟨_, rfl⟩;obtain ⟨p, hp⟩ : ∃ f, f = r.length:=⟨_, rfl⟩;rw [<- hf, <- hn, <- hp] at hrun x0 x1 x2 hb c2 ⊢;clear hf hn hp hat hM hM2 hkl hO bx hi h;go_enter Tryz.func94, Tryz.ntmps94;go_wp2_with fail;generalize w.alloc (.cells #[.int .i64 f, .int .i64 n, .int .i64 p] 143) = W at hrun x0 x1 x2 hb c2 ⊢;go_region
 go_wp2_with fail;go_ret;exact ⟨rfl, ⟨hb.os, hb.tape, hb.output, hb.size, hb.block⟩⟩
theorem ext_ne_key {a b c a' b' c' : Int} {kl kl' : Lit} (h : keyOf Tryz.prog 143 (extV a b c) = some kl) (h' : keyOf Tryz.prog 143 (extV a' b' c') = some kl') (hne : a ≠ a') : kl ≠ kl':=by intro e;subst e;have:=law143.inj h h';unfold extV at this;injection this with h1;have h2:=congrArg (fun x : Array Value => x[0]?) h1;simp at h2;exact hne h2
theorem fromR_lt {rows : List (List Int)} {i : Nat} {r : List Int} (h : rows[i]? = some r) : fromR rows i < rowsLen rows:=by have:=fromR_fit h;have:=secs_pos r.length;omega
theorem fromR_snoc (rows : List (List Int)) (bs : List Int) : (∀ i, i < rows.length -> fromR (rows ++ [bs]) i = fromR rows i) /\ fromR (rows ++ [bs]) rows.length = rowsLen rows:=by
 refine ⟨fun i hi => ?_, ?_⟩
 ·unfold fromR; rw [List.take_append_of_le_length (by omega)]
 ·unfold fromR; rw [List.take_left' rfl]
theorem Byts.only {S : Nat -> Prop} {w w' : World} {A : Option Addr} {bs : List Int} (h : Byts w A bs) (ho : Only S w w') (hs : ∀ b off, A = some ⟨b, off, none⟩ -> ¬ S b) : Byts w' A bs:=by intro j v hv;obtain ⟨h1, h2, b, off, hA, hl, hc⟩:=h j v hv;exact ⟨h1, h2, b, off, hA, Nat.lt_of_lt_of_le hl ho.size, (ho.cell (p:=⟨b, off + j, none⟩) hl (hs b off hA)).trans hc⟩
theorem Ints.only {S : Nat -> Prop} {w w' : World} {A : Option Addr} {xs : List Int} (h : Ints w A xs) (ho : Only S w w') (hs : ∀ b off, A = some ⟨b, off, none⟩ -> ¬ S b) : Ints w' A xs:=by intro j v hv;obtain ⟨h1, b, off, hA, hl, hc⟩:=h j v hv;exact ⟨h1, b, off, hA, Nat.lt_of_lt_of_le hl ho.size, (ho.cell (p:=⟨b, off + j, none⟩) hl (hs b off hA)).trans hc⟩
theorem SpaceAt.put {w w' : World} {P : SpP} {N : Nat} {rows : List (List Int)} {bs : List Int} (h : SpaceAt w P N rows) (hs : Blk w' P.s 178 #[.pointer (some ⟨P.d, 0, none⟩), .pointer (some ⟨P.m, 0, none⟩), .map (some P.l)]) (hbs : 1 <= bs.length /\ bs.length <= 10000)
  (hd : DiskAt w' P.d P.b (diskR N (rows ++ [bs]))) (hb : BitsAt w' P.m P.g N (rowsLen rows + secs bs.length)) {D : DataW Value} {kl : Lit} (hkl : keyOf Tryz.prog 143 (extV (rowsLen rows : Nat) (secs bs.length : Nat) (bs.length : Nat)) = some kl)
  (hM0 : MapAt w 143 P.l D) (hsz : Maps.size D <= rows.length) (hat : ∀ i r, rows[i]? = some r -> ∀ kl, keyOf Tryz.prog 143 (extV (fromR rows i) (secs r.length) r.length) = some kl -> D.atKey kl (.held (.bool false)) = .held (.bool true))
  (hM : MapAt w' 143 P.l (D.put kl (.held (.bool true)))) : SpaceAt w' P N (rows ++ [bs]):=by
 obtain ⟨s1, s2⟩:=fromR_snoc rows bs;refine ⟨hs, hd, by rw [rowsLen_append]; simpa [rowsLen] using hb, ⟨_, hM, ?_, ?_⟩, h.apart, ?_⟩
 ·have:=size_put (k:=kl) (World.ownsMap.tidy hM0 law143) (DataW.held (Value.bool true));rw [this, length_append];split <;> simp <;> omega
 ·intro i r hi kl' hkl';rcases Nat.lt_or_ge i rows.length with hlt | hge
  ·rw [getElem?_append_left hlt] at hi;rw [s1 i hlt] at hkl';have hne : kl' ≠ kl:=ext_ne_key hkl' hkl (by have:=fromR_lt hi; omega);rw [atKey_put_other hne];exact hat i r hi kl' hkl'
  ·have hi':=(List.getElem?_eq_some_iff.1 hi).1;rw [length_append, List.length_singleton] at hi';obtain rfl : i = rows.length:=by omega
   rw [getElem?_append_right (Nat.le_refl _), Nat.sub_self] at hi;injection hi with hi;subst hi;rw [s2, hkl] at hkl';injection hkl' with hkl';subst hkl';exact atKey_put_same hM0.isMap (law143.key hkl) _ _
 ·intro r hr;rcases List.mem_append.1 hr with h1 | h1
  ·exact h.rowsOk r h1
  ·rw [List.mem_singleton] at h1; subst h1; exact hbs
theorem extPut_full (P : SpP) (N : Nat) (rows : List (List Int)) (A : Option Addr) (bs : List Int) (cap : Nat) (w : World) (h : SpaceAt w P N rows) (hbs : 1 <= bs.length /\ bs.length <= 10000) (hfull : ¬ (rowsLen rows + secs bs.length <= N)) :
  Calls Tryz.prog 179 #[.pointer (some ⟨P.s, 0, none⟩), .slice A bs.length cap] w fun e w' => e = .returned (.tuple #[extV 0 0 0, .int .i64 3]) /\ Below w.heap.size w w':=by
 have hb:=(Below.refl w.heap.size w).alloc (Nat.le_refl _) (.cells #[.int .i64 0, .int .i64 0, .int .i64 0] 143);have hO:=only_of hb (fun _ => False);have c1:=(h.head.only hO (fun h => h)).cell 1;simp only [qTa, qTb, qTc] at c1;have hf:=first_any P.m P.g N (rowsLen rows) (secs bs.length) _ (h.bits.only hO (fun h => h) (fun h => h)) (secs_pos _) (by unfold secs; omega);rw [if_neg hfull, decide_eq_false hfull] at hf;have hsx:=fun W => sectors_any bs.length (by omega) W;obtain ⟨n, hn⟩ : ∃ n, n = secs bs.length:=⟨_, rfl⟩;obtain ⟨p, hp⟩ : ∃ n, n = bs.length:=⟨_, rfl⟩;rw [<- hn] at hf hsx;rw [<- hp] at hsx ⊢;have HF:=hid hf;have HS:=hid hsx;have b0:=Blk.new w 143 #[.int .i64 0, .int .i64 0, .int .i64 0];clear hf hsx hn hp hO h hfull hbs;go_enter Tryz.func179, Tryz.ntmps179;go_wp2_with fail;refine (HS.out _).mono ?_;rintro e w1 ⟨rfl, rfl⟩;go_wp2_with fail;refine HF.out.mono ?_;rintro e w1 ⟨rfl, rfl⟩;go_wp2_with fail;exact bodyPost_ret (res_cell_tmp rfl _ _ w.heap.size 143 _ (0, 0) _ rfl b0 Tryz.underlying143 rfl size143) rfl ⟨rfl, hb⟩
theorem extPut_any (P : SpP) (N : Nat) (rows : List (List Int)) (ab aoff : Nat) (bs : List Int) (cap : Nat) (w : World) (h : SpaceAt w P N rows) (hbs : 1 <= bs.length /\ bs.length <= 10000) (hfit : rowsLen rows + secs bs.length <= N)
  (hA : Byts w (some ⟨ab, aoff, none⟩) bs) (hab : ¬ P.set ab) (hcap : bs.length <= cap /\ cap <= 9223372036854775807) :
  Calls Tryz.prog 179 #[.pointer (some ⟨P.s, 0, none⟩), .slice (some ⟨ab, aoff, none⟩) bs.length cap] w fun e w' => e = .returned (.tuple #[extV (rowsLen rows : Nat) (secs bs.length : Nat) (bs.length : Nat), .int .i64 0]) /\ SpaceAt w' P N (rows ++ [bs]) /\ Only P.set w w':=by
 have hb:=(Below.refl w.heap.size w).alloc (Nat.le_refl _) (.cells #[.int .i64 0, .int .i64 0, .int .i64 0] 143);have hO:=only_of hb (fun _ => False);have c1:=(h.head.only hO (fun h => h)).cell 1;simp only [qTa, qTb, qTc] at c1;have hB1:=h.bits.only hO (fun h => h) (fun h => h);have hf:=first_any P.m P.g N (rowsLen rows) (secs bs.length) _ hB1 (secs_pos _) (by unfold secs; omega);rw [if_pos hfit, decide_eq_true hfit] at hf;have htk:=take_any P.m P.g N (rowsLen rows) (secs bs.length) _ hB1 (secs_pos _) hfit;have hsx:=fun W => sectors_any bs.length (by omega) W;obtain ⟨⟨n1, n2, n3, n4, n5⟩, ⟨n6, n7, n8, n9⟩, ⟨n10, n11, n12⟩, ⟨n13, n14⟩, n15⟩:=SpP.ne h.apart;obtain ⟨D, hM, hsz, hat⟩:=h.live;have hNs:=h.bits.small;have hrl:=rowsLen_ge rows;have hsb : secs bs.length <= 200:=by unfold secs; omega
 obtain ⟨kl, hkl⟩:=keyE (a:=(rowsLen rows : Nat)) (b:=(secs bs.length : Nat)) (c:=(bs.length : Nat)) (by omega) (by omega) (by omega);have hlt:=h.lt;have hlay:=fun (w1 : World) (hw1 : Only (fun k => k = P.g) (w.alloc (.cells #[.int .i64 0, .int .i64 0, .int .i64 0] 143)) w1) =>
  lay_any P.s P.d P.b P.l ab aoff cap (rowsLen rows) (.pointer (some ⟨P.m, 0, none⟩)) (diskR N rows) bs D w1 0 ((h.head.only hO (fun h => h)).only hw1 n4) ((h.disk.only hO (fun h => h) (fun h => h)).only hw1 n8 n11) ((hM.keep hO (fun h => h)).keep hw1 (Ne.symm n15)) (by omega)
   n1 n2 (Ne.symm n9) (Ne.symm n12)
   (Byts.only (hA.alloc _) hw1 (fun b off e1 e => hab (by injection e1 with e1; injection e1 with e1; rw [e1, e]; exact .inr (.inr (.inr (.inr (.inl rfl)))))))
   ⟨fun e => hab (by rw [e]; exact .inr (.inl rfl)), fun e => hab (by rw [e]; exact .inr (.inr (.inl rfl))), fun e => hab (by rw [e]; exact .inr (.inr (.inr (.inr (.inr rfl)))))⟩ hbs.1 hcap (by omega)
   (by rw [diskR_length _ _ (by omega)]; omega) kl hkl
 rw [laidP_put hfit] at hlay;have hput:=fun (w' : World) a1 a2 a3 a4 => SpaceAt.put (w':=w') h a1 hbs a2 a3 hkl hM hsz hat a4;have hhead:=h.head.only hO (fun h => h);have hm0:=fun e => hlt w.heap.size e;obtain ⟨n, hn⟩ : ∃ n, n = secs bs.length:=⟨_, rfl⟩;obtain ⟨p, hp⟩ : ∃ n, n = bs.length:=⟨_, rfl⟩;obtain ⟨f, hff⟩ : ∃ n, n = rowsLen rows:=⟨_, rfl⟩;rw [<- hn, <- hff] at hf htk;rw [<- hn] at hsx;rw [<- hp] at hsx;rw [<- hn, <- hp, <- hff] at hlay ⊢;rw [<- hff, <- hn] at hput;unfold extV at hlay ⊢;have HF:=hid hf;have HT:=hid htk;have HS:=hid hsx;have HL:=hid hlay;have HP:=hid hput;have b0:=Blk.new w 143 #[.int .i64 0, .int .i64 0, .int .i64 0];have HH:=hid hhead;have HM0:=hid hm0;clear hf htk hsx hlay hput hn hp hff hM hat hkl hA hrl hsb hfit hB1 hhead hm0 hlt;go_enter Tryz.func179, Tryz.ntmps179;go_wp2_with fail;refine (HS.out _).mono ?_;rintro e w1 ⟨rfl, rfl⟩;go_wp2_with fail;refine HF.out.mono ?_;rintro e w1 ⟨rfl, rfl⟩;go_wp2_with fail;refine HT.out.mono ?_;rintro e w1 ⟨rfl, hB1, hO1⟩;have hl:=hid (HL.out w1 hO1);go_wp2_with fail;refine hl.out.mono ?_;rintro e w2 ⟨rfl, hD2, hM2, hO2⟩;have hnx : ¬ P.set w.heap.size:=fun e => by have:=HM0.out e; omega
 have b1:=(b0.only hO1 (fun e => hnx (.inr (.inr (.inr (.inr (.inl e))))))).only hO2 (by rintro (e | e | e); exact hnx (.inr (.inl e)); exact hnx (.inr (.inr (.inl e))); exact hnx (.inr (.inr (.inr (.inr (.inr e))))));have hB2:=hB1.only hO2 (by rintro (e | e | e); exact n7 e.symm; exact n10 e.symm; exact n14 e) (by rintro (e | e | e); exact n8 e.symm; exact n11 e.symm; exact n15 e);have hS2:=(HH.out.only hO1 n4).only hO2 (by rintro (e | e | e); exact n1 e; exact n2 e; exact n5 e);have hSp:=HP.out w2 hS2 hD2 hB2 hM2;have hOa : Only P.set w w2:=(hO.mono (fun _ h => h.elim)).trans ((hO1.mono (fun g e => .inr (.inr (.inr (.inr (.inl e)))))).trans (hO2.mono (by rintro g (e | e | e); exact .inr (.inl e); exact .inr (.inr (.inl e)); exact .inr (.inr (.inr (.inr (.inr e)))))));have c0:=b1.cell 0;have c1:=b1.cell 1;have c2:=b1.cell 2;simp only [qTa, qTb, qTc] at c0 c1 c2;have f1:=b1.frozen;clear hD2 hB2 hS2 hB1;go_wp2_with fail;have hO3:=only_three w2 w.heap.size (.int .i64 f) (.int .i64 n) (.int .i64 p);refine bodyPost_ret (res_cell_tmp rfl _ _ w.heap.size 143 _ (0, 0) _ rfl (b1.set111 _ _ _) Tryz.underlying143 rfl size143) rfl ⟨rfl, hSp.only hO3 (fun k hk e => hnx (by rw [<- e]; exact hk)), ?_⟩;exact Only.shrink ((hOa.mono (fun g h => Or.inl h)).trans (hO3.mono (T:=fun g => P.set g \/ g = w.heap.size) (fun g h => Or.inr h))) (fun g h => h.imp id (fun h => by omega))
end Go.Proofs.YtgaemfghpibeeaaGreatDoor
