/-
  The tables as the list gives them; words, slices, objects and images, plainly; what checks an object answers. Conditions: each theorem names its own.
-/
import Derived.Test.YtgaemfghpibeeaaGreatDoorPk02
import Derived.ChangeSame
import Derived.Deep.DeepHandedRow
import Derived.Deep.DrawnRows
import Derived.Deep.Fields
import Derived.Deep.Slices
import Derived.Laws.AppendOwnNone
import Derived.Laws.Bits128
import Derived.Laws.IdiomStrings
import Derived.Laws.MakeOwn
import Derived.Laws.OwnMore
import Derived.Lib.AppendZeros
import Derived.Lib.LaidTab
import Derived.OpenShut
import Derived.OwnWalk
import Derived.ProofKit
set_option maxRecDepth 100000
set_option maxHeartbeats 6000000
open Go.Lib (hid)
open List (getElem?_eq_getElem mem_of_getElem? getElem?_append_left getElem?_append_right getD_eq_getElem?_getD eq_nil_of_length_eq_zero getElem?_eq_none_iff length_replicate take_of_length_le length_set length_append)
namespace Go.Proofs.YtgaemfghpibeeaaGreatDoor
open Go.ChangeShapes Go.WideShapes Go.ChangeAt Go.RowKit
section
variable {H : Type} {enc : TypeId × Value -> H} {w : World} {base : Nat} {sp : Nat -> Bool} {held : Bool} {fuel : Nat} {cs : List Value} {p : List MemPlace}
theorem int_cells {z : Int} (h : DataW.trod enc Tryz.prog w base sp held fuel 3 cs = some (.lit (.int .i64 z), p)) : cs = [.int .i64 z]:=by obtain ⟨z', hc, hx, _⟩:=DataW.trod_int Tryz.underlying3 h;simp only [Prod.mk.injEq, DataW.lit.injEq, Lit.int.injEq, true_and] at hx;rw [hc, hx.1]
theorem ints_array {t : TypeId} {n : Nat} {zs : List Int} (ht : Tryz.prog.underlying t = some (.array n 3)) (hct : Tryz.prog.cellsOf t = n) (h : DataW.trod enc Tryz.prog w base sp held fuel t cs = some (.agg (zs.map fun z => .lit (.int .i64 z)), p)) : cs = zs.map (Value.int .i64) :=
 Lib.cells_of_tab (zs:=zs) ht Tryz.underlying3 (by kernel_rfl) hct h
theorem tcells3 : Tryz.prog.cellsOf 3 = 1:=by kernel_rfl
theorem cells57 : Tryz.prog.cellsOf 261 = 3:=by kernel_rfl
theorem cells58 : Tryz.prog.cellsOf 262 = 24:=by kernel_rfl
theorem cells59 : Tryz.prog.cellsOf 263 = 4:=by kernel_rfl
theorem cells60 : Tryz.prog.cellsOf 264 = 12:=by kernel_rfl
theorem span_cells {a b c : Int} (h : DataW.trod enc Tryz.prog w base sp held fuel 261 cs = some (.agg [.lit (.int .i64 a), .lit (.int .i64 b), .lit (.int .i64 c)], p)) : cs = [.int .i64 a, .int .i64 b, .int .i64 c]:=by
 obtain ⟨xs, n, _, hx, hl, hxl, hf⟩:=DataW.trod_struct Tryz.underlying261 h;rw [cells57] at hl;simp only [Prod.mk.injEq, DataW.agg.injEq] at hx
 match xs, hxl with
 | [y0, y1, y2], _ =>
  obtain ⟨d0, q0⟩:=y0;obtain ⟨d1, q1⟩:=y1;obtain ⟨d2, q2⟩:=y2;simp at hx;obtain ⟨⟨rfl, rfl, rfl⟩, _⟩:=hx;have h0 : DataW.trod enc Tryz.prog w base sp held n 3 ((cs.drop 0).take (Tryz.prog.cellsOf 3)) = some (.lit (.int .i64 a), q0):=hf 0 _ rfl;have h1 : DataW.trod enc Tryz.prog w base sp held n 3 ((cs.drop 1).take (Tryz.prog.cellsOf 3)) = some (.lit (.int .i64 b), q1):=hf 1 _ rfl;have h2 : DataW.trod enc Tryz.prog w base sp held n 3 ((cs.drop 2).take (Tryz.prog.cellsOf 3)) = some (.lit (.int .i64 c), q2):=hf 2 _ rfl;rw [tcells3] at h0 h1 h2;have e0:=int_cells h0;have e1:=int_cells h1;have e2:=int_cells h2
  match cs, hl with
  | [v0, v1, v2], _ => simp at e0 e1 e2;rw [e0, e1, e2]
theorem spans_cells (h : DataW.trod enc Tryz.prog w base sp held fuel 262 cs = some (Rows.laid_webster_code_spans, p)) : cs = spansA.toList:=by
 obtain ⟨xs, n, _, hx, hl, hxl, hf⟩:=DataW.trod_array Tryz.underlying262 h;rw [cells58] at hl;unfold Rows.laid_webster_code_spans at hx;simp only [Prod.mk.injEq, DataW.agg.injEq] at hx
 match xs, hxl with
 | [y0, y1, y2, y3, y4, y5, y6, y7], _ =>
  obtain ⟨d0, q0⟩:=y0;obtain ⟨d1, q1⟩:=y1;obtain ⟨d2, q2⟩:=y2;obtain ⟨d3, q3⟩:=y3;obtain ⟨d4, q4⟩:=y4;obtain ⟨d5, q5⟩:=y5;obtain ⟨d6, q6⟩:=y6;obtain ⟨d7, q7⟩:=y7;simp at hx;obtain ⟨⟨rfl, rfl, rfl, rfl, rfl, rfl, rfl, rfl⟩, _⟩:=hx;rw [cells57] at hf;have e0:=span_cells (hf 0 (by omega));have e1:=span_cells (hf 1 (by omega));have e2:=span_cells (hf 2 (by omega));have e3:=span_cells (hf 3 (by omega));have e4:=span_cells (hf 4 (by omega));have e5:=span_cells (hf 5 (by omega));have e6:=span_cells (hf 6 (by omega));have e7:=span_cells (hf 7 (by omega))
  match cs, hl with
  | [v0, v1, v2, v3, v4, v5, v6, v7, v8, v9, v10, v11, v12, v13, v14, v15, v16, v17, v18, v19, v20, v21, v22, v23], _ => simp at e0 e1 e2 e3 e4 e5 e6 e7;simp [spansA, e0, e1, e2, e3, e4, e5, e6, e7]
theorem stores_cells (h : DataW.trod enc Tryz.prog w base sp held fuel 264 cs = some (Rows.laid_webster_code_stores, p)) : cs = storesA.toList:=by
 obtain ⟨xs, n, _, hx, hl, hxl, hf⟩:=DataW.trod_array Tryz.underlying264 h;rw [cells60] at hl;unfold Rows.laid_webster_code_stores at hx;simp only [Prod.mk.injEq, DataW.agg.injEq] at hx
 match xs, hxl with
 | [y0, y1, y2], _ =>
  obtain ⟨d0, q0⟩:=y0;obtain ⟨d1, q1⟩:=y1;obtain ⟨d2, q2⟩:=y2;simp at hx;obtain ⟨⟨rfl, rfl, rfl⟩, _⟩:=hx;rw [cells59] at hf;have e0:=ints_array (zs:=[1, 2, 3, 4]) Tryz.underlying263 cells59 (hf 0 (by omega));have e1:=ints_array (zs:=[5, 6, 0, 7]) Tryz.underlying263 cells59 (hf 1 (by omega));have e2:=ints_array (zs:=[8, 9, 0, 10]) Tryz.underlying263 cells59 (hf 2 (by omega))
  match cs, hl with
  | [v0, v1, v2, v3, v4, v5, v6, v7, v8, v9, v10, v11], _ => simp at e0 e1 e2;simp [storesA, e0, e1, e2]
end
theorem gSpans : Tryz.prog.globalNamed "webster/code.spans" = some 0:=by kernel_rfl
theorem gStores : Tryz.prog.globalNamed "webster/code.stores" = some 1:=by kernel_rfl
theorem gSpansType : (Tryz.prog.globals[0]?).map (·.type) = some 262:=by kernel_rfl
theorem gStoresType : (Tryz.prog.globals[1]?).map (·.type) = some 264:=by kernel_rfl
theorem heap_of_var {w : World} {name : String} {g : Nat} {cs : Array Value} (hg : Tryz.prog.globalNamed name = some g) (h : w.var? Tryz.prog name = some cs) : ∃ t fr, w.heap[g]? = some (.cells cs t fr):=by
 unfold World.var? at h;rw [hg] at h;simp only [Option.bind_some] at h;split at h
 ·rename_i c t fr heq
  injection h with h;subst h;exact ⟨t, fr, heq⟩
 ·cases h
theorem tabs_of {W : World} (h : laidMet Tryz.prog [("webster/code.spans", Rows.laid_webster_code_spans), ("webster/code.stores", Rows.laid_webster_code_stores)] W) : Tabs W:=by obtain ⟨ps, ⟨g, t, cs, fuel, p, q, hg, ht, hvar, hd, ⟨g2, t2, cs2, fuel2, p2, q2, hg2, ht2, hvar2, hd2, _, _⟩, _⟩, _⟩:=h;obtain rfl:=Option.some.inj (gSpans.symm.trans hg);obtain rfl:=Option.some.inj (gSpansType.symm.trans ht);obtain rfl:=Option.some.inj (gStores.symm.trans hg2);obtain rfl:=Option.some.inj (gStoresType.symm.trans ht2);have e1 : cs = spansA:=Array.toList_inj.1 (spans_cells hd);have e2 : cs2 = storesA:=Array.toList_inj.1 (stores_cells hd2);subst e1 e2;exact ⟨heap_of_var gSpans hvar, heap_of_var gStores hvar2⟩
end Go.Proofs.YtgaemfghpibeeaaGreatDoor
namespace Go.Proofs.YtgaemfghpibeeaaGreatDoor
open Go.ChangeShapes Go.WideShapes Go.Deep
section
variable {H : Type} {enc : TypeId × Value -> H} {P : Program} {w : World} {base : Nat} {spare : Nat -> Bool} {held : Bool}
theorem open_slice_fields {t e : TypeId} {fs : Array Field} {fuel : Nat} {cs : List Value} {x : DataW H × List MemPlace} (ht : P.underlying t = some (.slice e)) (he : P.underlying e = some (.struct fs))
  (hone : oneCellFields P fs = true) (hC : P.cellsOf e = fs.size) (h : DataW.trod enc P w base spare held fuel t cs = some x) :
  (cs = [.slice none 0 0] /\ x = (.nil, [])) \/
  ∃ (a : Addr) (len cap m : Nat) (D : Nat -> DataW H) (Pl : Nat -> List MemPlace), cs = [.slice (some a) len cap] /\ base <= a.block /\ len <= cap /\ cap <= maxLen /\ m = (if spare a.block then cap else len) /\
   x = (.slice ((List.range len).map D) ((List.range (m - len)).map fun j => D (len + j)), MemPlace.row a (m * fs.size) ++ (List.range m).flatMap Pl) /\
   ∀ i, i < m -> ∃ (ys : List (DataW H × List MemPlace)) (n : Nat), D i = .agg (ys.map (·.1)) /\ Pl i = ys.flatMap (·.2) /\ ys.length = fs.size /\
    ∀ (j : Nat) (f : Field), fs[j]? = some f -> ∃ (v : Value) (y : DataW H × List MemPlace), w.cell? (a.add (i * fs.size + j)) = some v /\ ys[j]? = some y /\ DataW.trod enc P w base spare held n f.type [v] = some y:=by
 rcases open_slice ht h with h0 | ⟨a, len, cap, m, n, D, Pl, hcs, hb, hl, hm, hmm, hx, hi⟩
 ·exact .inl h0
 ·refine .inr ⟨a, len, cap, m, D, Pl, hcs, hb, hl, hm, hmm, by rw [hC] at hx; exact hx, fun i him => ?_⟩;obtain ⟨cs', hc, ht'⟩:=hi i him;rw [hC] at hc;obtain ⟨ys, n', hn', hy, hlen, hyl, hf⟩:=DataW.trod_struct he ht';obtain ⟨_, hcl, hat⟩:=World.cells?_some hc;simp only [Prod.mk.injEq] at hy;refine ⟨ys, n', hy.1, hy.2, hyl, fun j f hj => ?_⟩;obtain ⟨ho, hk⟩:=hone_of hone j f hj;have hjl : j < fs.size:=(Array.getElem?_eq_some_iff.1 hj).1;have hcell:=hat j hjl;have hv : cs'[j]? = some (cs'[j]'(by omega)):=getElem?_eq_getElem (by omega);have h1:=hf j f hj;rw [ho, hk] at h1;have hone' : (cs'.drop j).take 1 = [cs'[j]'(by omega)]:=by rw [List.drop_eq_getElem_cons (by omega)];rfl
  rw [hone'] at h1;have hys : ys[j]? = some (ys[j]'(by omega)):=getElem?_eq_getElem (by omega);refine ⟨_, _, ?_, hys, h1.trans hys⟩;rw [<- Go.Deep.add_add, hcell, hv]
end
end Go.Proofs.YtgaemfghpibeeaaGreatDoor
namespace Go.Proofs.YtgaemfghpibeeaaGreatDoor
open Go.RowKit
theorem only_of_below {a w : World} (h : Below a.heap.size a w) (row : Option Nat) : a.grownBy w row:=⟨h.os, h.tape, h.output, h.size, fun i hi _ => h.block i hi⟩
theorem Blk.new2 (w : World) (o : Obj) (t : TypeId) (cs : Array Value) : Blk ((w.alloc o).alloc (.cells cs t)) (w.heap.size + 1) t cs:=by
 have:=Blk.new (w.alloc o) t cs;have e : (w.alloc o).heap.size = w.heap.size + 1:=by simp
 rwa [e] at this
theorem Blk.row {w : World} {g : Nat} {t : TypeId} {cs : Array Value} (h : Blk w g t cs) : ∀ j u, cs.toList[j]? = some u -> w.cell? ((⟨g, 0, none⟩ : Addr).add j) = some u:=by
 intro j u hu;have hadd : (⟨g, 0, none⟩ : Addr).add j = ⟨g, j, none⟩:=by unfold Addr.add; split <;> simp_all
 rw [hadd, h.cell j]
 simpa using hu
theorem Blk.grown {w w' : World} {g : Nat} {t : TypeId} {cs : Array Value} {row : Option Nat} (h : Blk w g t cs) (hb : w.grownBy w' row) (hg : some g ≠ row) : Blk w' g t cs:=(hb.block g h.lt hg).trans h
def u8s (bs : List Int) : List UInt8:=bs.map fun v => UInt8.ofNat v.toNat
theorem u8s_get (bs : List Int) (j : Nat) (h : j < (u8s bs).length) (hv : ∀ v ∈ bs, 0 <= v /\ v <= 255) : ((u8s bs)[j].toNat : Int) = bs.getD j 0:=by
 have hj : j < bs.length:=by simpa [u8s] using h
 have hm:=hv _ (List.getElem_mem hj);have e : bs.getD j 0 = bs[j]:=by rw [getD_eq_getElem?_getD, getElem?_eq_getElem hj]; rfl
 rw [e];simp only [u8s, List.getElem_map];rw [UInt8.toNat_ofNat'];omega
theorem Byts.vals {w : World} {A : Option Addr} {bs : List Int} (h : Byts w A bs) : ∀ v ∈ bs, 0 <= v /\ v <= 255:=by intro v hv;obtain ⟨j, hj⟩:=List.getElem?_of_mem hv;obtain ⟨h1, h2, _⟩:=h j v hj;exact ⟨h1, h2⟩
theorem conv_bytes (w : World) (A : Option Addr) (bs : List Int) (cap : Nat) (hB : Byts w A bs) :
  (convert 27 9 (.slice A bs.length cap)).run Tryz.prog w = .ok (.string ⟨(u8s bs).toArray⟩) w:=by
 have hl : bs.length = (u8s bs).length:=by simp [u8s]
 cases A with
 | none =>
  have : bs = []:=by
   cases bs with
   | nil => rfl
   | cons x l => obtain ⟨_, _, b, off, hA, _⟩:=hB 0 x rfl; cases hA
  subst this;show (convert 27 9 (.slice none 0 cap)).run Tryz.prog w = _
  rw [run_convert_bytes_string w 27 9 5 none 0 cap Tryz.underlying27 Tryz.underlying5 Tryz.underlying9];rfl
 | some a =>
  rw [hl];refine run_convert_bytes_back w 27 9 5 a cap (u8s bs) Tryz.underlying27 Tryz.underlying5 Tryz.underlying9 ?_;intro j hj;have hjb : j < bs.length:=by omega
  rw [u8s_get bs j hj hB.vals];obtain ⟨h1, h2, b, off, hA, hlt, hc⟩:=hB j bs[j] (getElem?_eq_getElem hjb);obtain ⟨rfl⟩ : a = ⟨b, off, none⟩:=by simpa using hA
  have hadd : (⟨b, off, none⟩ : Addr).add j = ⟨b, off + j, none⟩:=by unfold Addr.add; split <;> simp_all
  have e : bs.getD j 0 = bs[j]:=by rw [getD_eq_getElem?_getD, getElem?_eq_getElem hjb]; rfl
  rw [hadd, e];exact hc
def byteCells (bs : List Int) : Array Value:=(bs.map (Value.int .u8)).toArray
theorem Byts.of_blk {w : World} {g : Nat} {bs : List Int} (h : Blk w g 5 (byteCells bs)) (hv : ∀ v ∈ bs, 0 <= v /\ v <= 255) : Byts w (some ⟨g, 0, none⟩) bs:=by intro j v hj;obtain ⟨h1, h2⟩:=hv v (mem_of_getElem? hj);refine ⟨h1, h2, g, 0, rfl, h.lt, ?_⟩;rw [Nat.zero_add, h.cell j];simp [byteCells, hj]
theorem Byts.nil (w : World) (A : Option Addr) : Byts w A []:=by intro j v hj; simp at hj
def OwnsB (w : World) (B : Nat) (v : Value) (l : List Int) : Prop:=w.ownsRow B 5 1 v l.length (l.map (Value.int .u8))
theorem OwnsB.keep {w w' : World} {B : Nat} {v : Value} {l : List Int} (h : OwnsB w B v l) (hb : Below w.heap.size w w') : OwnsB w' B v l :=
 World.ownsRow.kept h (only_of_below hb none) (by cases v.ownBlock <;> simp)
theorem OwnsB.reads {w : World} {B : Nat} {v : Value} {l : List Int} (h : OwnsB w B v l) (hv : ∀ x ∈ l, 0 <= x /\ x <= 255) : ∃ A cap, v = .slice A l.length cap /\ l.length <= cap /\ cap <= 9223372036854775807 /\ Byts w A l:=by
 rcases h.2 with ⟨rfl, h0⟩ | ⟨g, cap, cur, rfl, hg, hh, h1, h2, h3, h4⟩
 ·have : l = []:=eq_nil_of_length_eq_zero h0;subst this;exact ⟨none, 0, rfl, by simp, by omega, Byts.nil _ _⟩
 ·unfold maxLen at h2;refine ⟨_, cap, rfl, h1, h2, fun j o ho => ?_⟩;have hj:=(List.getElem?_eq_some_iff.1 ho).1;obtain ⟨k1, k2⟩:=hv o (mem_of_getElem? ho);refine ⟨k1, k2, g, 0, rfl, (Array.getElem?_eq_some_iff.1 hh).1, ?_⟩;rw [Nat.zero_add, cell_of_row w g j cur 5 (0, 0) hh];have : (cur.toList.take (l.length * 1))[j]? = (l.map (Value.int .u8))[j]?:=by rw [h4]
  rw [List.getElem?_take, if_pos (by omega), List.getElem?_map, ho] at this
  simpa using this
theorem Tryz.info5 : (Tryz.prog.info? 5).map (fun i => (i.zero, i.size, i.bytes)) = some (some (.int .u8 0), 1, 1):=by kernel_rfl
theorem Byts.row {w : World} {a : Addr} {bs : List Int} (h : Byts w (some a) bs) : ∀ j u, (bs.map (Value.int .u8))[j]? = some u -> w.cell? (a.add j) = some u:=by
 intro j u hu;rw [List.getElem?_map] at hu;cases hb : bs[j]? with
 | none => rw [hb] at hu; cases hu
 | some x =>
  rw [hb] at hu;simp at hu;obtain ⟨_, _, b, off, hA, _, hc⟩:=h j x hb;obtain ⟨rfl⟩ : a = ⟨b, off, none⟩:=by simpa using hA
  have hadd : (⟨b, off, none⟩ : Addr).add j = ⟨b, off + j, none⟩:=by unfold Addr.add; split <;> simp_all
  rw [hadd, hc, <- hu]
theorem append_bytes {w : World} {ops : Array Oper} {rest : List Oper} {o : Oper} {a : Act} {Q : Exit -> Act -> World -> Prop} (hgd : o.guard = none) (s x : Operand)
  (ho : o.op = .call { callee:=.builtin .append, args:=#[s, x], argTypes:=#[27, 27] })
  (base : Nat) (v : Value) (acc : List Int) (hs : a.eval s = v) (hown : OwnsB w base v acc) (A : Option Addr) (bs : List Int) (n cap : Nat) (hn : n = bs.length) (hx : a.eval x = .slice A n cap) (hB : Byts w A bs) (hnone : A = none -> cap = 0)
  (hbig : acc.length + n <= 8388608) (hbase : base <= w.heap.size)
  (h : ∀ v' w', OwnsB w' base v' (acc ++ bs) -> w.grownBy w' v.ownBlock -> wpList Tryz.prog ops Q rest (a.put o.dst v') w') : wpList Tryz.prog ops Q (o :: rest) a w:=by
 obtain ⟨i0, hi, hz0, hz1, hz2⟩:=info_parts Tryz.info5;subst hn;cases A with
 | none =>
  obtain rfl:=hnone rfl;have hb : bs = []:=by
   cases bs with
   | nil => rfl
   | cons x l => obtain ⟨_, _, b, off, hA, _⟩:=hB 0 x rfl; cases hA
  subst hb;refine wpList_append_own_none hgd s x 27 ho base 5 i0 1 Tryz.underlying27 hi v _ _ hs hown hx ?_;have:=h v w (by rw [List.append_nil]; exact hown) ⟨rfl, rfl, rfl, Nat.le_refl _, fun i _ _ => rfl⟩;exact this
 | some ad =>
  refine wpList_append_own _ hgd s x 27 ho base 5 i0 (.int .u8 0) 1 1 Tryz.underlying27 hi hz0 hz1 hz2 rfl (by decide) v _ _ hs hown ad bs.length cap (bs.map (Value.int .u8)) hx (by simp) hB.row ?_ (by unfold maxLen; omega) (by omega) hbase ?_
  ·intro u hu;obtain ⟨x, _, rfl⟩:=List.mem_map.1 hu;rfl
  ·intro v' w' h1 h2 _;refine h v' w' ?_ h2;unfold OwnsB;rw [length_append, List.map_append];exact h1
structure Only (S : Nat -> Prop) (w w' : World) : Prop where
 os : w'.os = w.os
 tape : w'.tape = w.tape
 output : w'.output = w.output
 size : w.heap.size <= w'.heap.size
 block : ∀ g, g < w.heap.size -> ¬ S g -> w'.heap[g]? = w.heap[g]?
theorem Only.refl (S : Nat -> Prop) (w : World) : Only S w w:=⟨rfl, rfl, rfl, Nat.le_refl _, fun _ _ _ => rfl⟩
theorem Only.trans {S : Nat -> Prop} {a b c : World} (h : Only S a b) (h2 : Only S b c) : Only S a c :=
 ⟨h2.os.trans h.os, h2.tape.trans h.tape, h2.output.trans h.output, Nat.le_trans h.size h2.size,
  fun g hg hs => (h2.block g (Nat.lt_of_lt_of_le hg h.size) hs).trans (h.block g hg hs)⟩
theorem Only.then_ {S T : Nat -> Prop} {a b c : World} (h : Only S a b) (h2 : Only T b c) (hT : ∀ g, T g -> S g \/ a.heap.size <= g) : Only S a c :=
 ⟨h2.os.trans h.os, h2.tape.trans h.tape, h2.output.trans h.output, Nat.le_trans h.size h2.size,
  fun g hg hs => (h2.block g (Nat.lt_of_lt_of_le hg h.size) (fun ht => (hT g ht).elim hs (fun h' => by omega))).trans (h.block g hg hs)⟩
theorem Only.mono {S T : Nat -> Prop} {a b : World} (h : Only S a b) (hT : ∀ g, S g -> T g) : Only T a b :=
 ⟨h.os, h.tape, h.output, h.size, fun g hg hs => h.block g hg (fun h' => hs (hT g h'))⟩
theorem only_of {a b : World} (h : Below a.heap.size a b) (S : Nat -> Prop) : Only S a b:=⟨h.os, h.tape, h.output, h.size, fun g hg _ => h.block g hg⟩
theorem Only.below {B : Nat} {S : Nat -> Prop} {a b : World} (h : Only S a b) (hB : B <= a.heap.size) (hS : ∀ g, S g -> B <= g) : Below B a b :=
 ⟨h.os, h.tape, h.output, h.size, fun g hg => h.block g (Nat.lt_of_lt_of_le hg hB) (fun h' => absurd (hS g h') (by omega))⟩
theorem Only.none_below {a b : World} (h : Only (fun _ => False) a b) : Below a.heap.size a b:=h.below (Nat.le_refl _) (fun _ h => h.elim)
theorem Only.alloc {S : Nat -> Prop} {a b : World} (h : Only S a b) (o : Obj) : Only S a (b.alloc o):=h.then_ (only_of ((Below.refl _ b).alloc (Nat.le_refl _) o) (fun _ => False)) (fun _ h' => h'.elim)
theorem Only.setCell {S : Nat -> Prop} {a b : World} (h : Only S a b) {p : Addr} (hp : S p.block \/ a.heap.size <= p.block) (u : Value) : Only S a (b.setCell p u) :=
 ⟨h.os, h.tape, h.output, by simpa using h.size, fun g hg hs => by rw [Below.heap_setCell b p u g (by intro e; subst e; rcases hp with hp | hp; exact hs hp; omega)];exact h.block g hg hs⟩
theorem Only.drewN {S : Nat -> Prop} {a b : World} (h : Only S a b) (n : Nat) : Only S a (b.drewN n):=⟨h.os, h.tape, h.output, h.size, h.block⟩
theorem Blk.only {S : Nat -> Prop} {w w' : World} {g : Nat} {t : TypeId} {cs : Array Value} (h : Blk w g t cs) (hb : Only S w w') (hg : ¬ S g) : Blk w' g t cs:=(hb.block g h.lt hg).trans h
def Ints (w : World) (A : Option Addr) (xs : List Int) : Prop :=
 ∀ j v, xs[j]? = some v -> (-9223372036854775808 <= v /\ v <= 9223372036854775807) /\ ∃ b off, A = some ⟨b, off, none⟩ /\ b < w.heap.size /\ w.cell? ⟨b, off + j, none⟩ = some (.int .i64 v)
theorem Ints.below {w w' : World} {A : Option Addr} {xs : List Int} (h : Ints w A xs) (hb : Below w.heap.size w w') : Ints w' A xs:=by intro j v hv;obtain ⟨h1, b, off, hA, hl, hc⟩:=h j v hv;exact ⟨h1, b, off, hA, Nat.lt_of_lt_of_le hl hb.size, (hb.cell (p:=⟨b, off + j, none⟩) hl).trans hc⟩
theorem Ints.alloc {w : World} {A : Option Addr} {xs : List Int} (h : Ints w A xs) (o : Obj) : Ints (w.alloc o) A xs:=h.below ((Below.refl _ w).alloc (Nat.le_refl _) o)
theorem Ints.nil (w : World) (A : Option Addr) : Ints w A []:=by intro j v hj; simp at hj
theorem Ints.vals {w : World} {A : Option Addr} {xs : List Int} (h : Ints w A xs) : ∀ v ∈ xs, -9223372036854775808 <= v /\ v <= 9223372036854775807:=by intro v hv;obtain ⟨j, hj⟩:=List.getElem?_of_mem hv;exact (h j v hj).1
def intCells (xs : List Int) : Array Value:=(xs.map (Value.int .i64)).toArray
theorem Ints.of_blk {w : World} {g : Nat} {xs : List Int} (h : Blk w g 3 (intCells xs)) (hv : ∀ v ∈ xs, -9223372036854775808 <= v /\ v <= 9223372036854775807) : Ints w (some ⟨g, 0, none⟩) xs:=by intro j v hj;refine ⟨hv v (mem_of_getElem? hj), g, 0, rfl, h.lt, ?_⟩;rw [Nat.zero_add, h.cell j];simp [intCells, hj]
theorem Ints.row {w : World} {a : Addr} {xs : List Int} (h : Ints w (some a) xs) : ∀ j u, (xs.map (Value.int .i64))[j]? = some u -> w.cell? (a.add j) = some u:=by
 intro j u hu;rw [List.getElem?_map] at hu;cases hb : xs[j]? with
 | none => rw [hb] at hu; cases hu
 | some x =>
  rw [hb] at hu;simp at hu;obtain ⟨_, b, off, hA, _, hc⟩:=h j x hb;obtain ⟨rfl⟩ : a = ⟨b, off, none⟩:=by simpa using hA
  have hadd : (⟨b, off, none⟩ : Addr).add j = ⟨b, off + j, none⟩:=by unfold Addr.add; split <;> simp_all
  rw [hadd, hc, <- hu]
def OwnsI (w : World) (B : Nat) (v : Value) (l : List Int) : Prop:=w.ownsRow B 3 1 v l.length (l.map (Value.int .i64))
theorem OwnsI.keep {w w' : World} {B : Nat} {v : Value} {l : List Int} (h : OwnsI w B v l) (hb : Below w.heap.size w w') : OwnsI w' B v l :=
 World.ownsRow.kept h (only_of_below hb none) (by cases v.ownBlock <;> simp)
theorem OwnsI.reads {w : World} {B : Nat} {v : Value} {l : List Int} (h : OwnsI w B v l) (hv : ∀ x ∈ l, -9223372036854775808 <= x /\ x <= 9223372036854775807) :
  ∃ A cap, v = .slice A l.length cap /\ l.length <= cap /\ cap <= 9223372036854775807 /\ Ints w A l /\ (A = none -> cap = 0):=by
 rcases h.2 with ⟨rfl, h0⟩ | ⟨g, cap, cur, rfl, hg, hh, h1, h2, h3, h4⟩
 ·have : l = []:=eq_nil_of_length_eq_zero h0;subst this;exact ⟨none, 0, rfl, by simp, by omega, Ints.nil _ _, fun _ => rfl⟩
 ·unfold maxLen at h2;refine ⟨_, cap, rfl, h1, h2, fun j o ho => ?_, fun h => by cases h⟩;have hj:=(List.getElem?_eq_some_iff.1 ho).1;refine ⟨hv o (mem_of_getElem? ho), g, 0, rfl, (Array.getElem?_eq_some_iff.1 hh).1, ?_⟩;rw [Nat.zero_add, cell_of_row w g j cur 3 (0, 0) hh];have : (cur.toList.take (l.length * 1))[j]? = (l.map (Value.int .i64))[j]?:=by rw [h4]
  rw [List.getElem?_take, if_pos (by omega), List.getElem?_map, ho] at this
  simpa using this
theorem Tryz.info3 : (Tryz.prog.info? 3).map (fun i => (i.zero, i.size, i.bytes)) = some (some (.int .i64 0), 1, 8):=by kernel_rfl
theorem append_ints {w : World} {ops : Array Oper} {rest : List Oper} {o : Oper} {a : Act} {Q : Exit -> Act -> World -> Prop} (hgd : o.guard = none) (s x : Operand)
  (ho : o.op = .call { callee:=.builtin .append, args:=#[s, x], argTypes:=#[26, 26] })
  (base : Nat) (v : Value) (acc : List Int) (hs : a.eval s = v) (hown : OwnsI w base v acc) (A : Option Addr) (bs : List Int) (n cap : Nat) (hn : n = bs.length) (hx : a.eval x = .slice A n cap) (hB : Ints w A bs) (hnone : A = none -> cap = 0)
  (hbig : acc.length + n <= 8388608) (hbase : base <= w.heap.size)
  (h : ∀ v' w', OwnsI w' base v' (acc ++ bs) -> w.grownBy w' v.ownBlock -> wpList Tryz.prog ops Q rest (a.put o.dst v') w') : wpList Tryz.prog ops Q (o :: rest) a w:=by
 obtain ⟨i0, hi, hz0, hz1, hz2⟩:=info_parts Tryz.info3;subst hn;cases A with
 | none =>
  obtain rfl:=hnone rfl;have hb : bs = []:=by
   cases bs with
   | nil => rfl
   | cons x l => obtain ⟨_, b, off, hA, _⟩:=hB 0 x rfl; cases hA
  subst hb;refine wpList_append_own_none hgd s x 26 ho base 3 i0 1 Tryz.underlying26 hi v _ _ hs hown hx ?_;have:=h v w (by rw [List.append_nil]; exact hown) ⟨rfl, rfl, rfl, Nat.le_refl _, fun i _ _ => rfl⟩;exact this
 | some ad =>
  refine wpList_append_own _ hgd s x 26 ho base 3 i0 (.int .i64 0) 1 8 Tryz.underlying26 hi hz0 hz1 hz2 rfl (by decide) v _ _ hs hown ad bs.length cap (bs.map (Value.int .i64)) hx (by simp) hB.row ?_ (by unfold maxLen; omega) (by omega) hbase ?_
  ·intro u hu;obtain ⟨x, _, rfl⟩:=List.mem_map.1 hu;rfl
  ·intro v' w' h1 h2 _;refine h v' w' ?_ h2;unfold OwnsI;rw [length_append, List.map_append];exact h1
def numM (o : Int) : Int × Bool:=if o % 2 = 0 \/ o / 2 < -1073741824 \/ 1073741823 < o / 2 then (0, false) else (o / 2, true)
def namM (o : Int) : Int × Bool:=if o % 2 = 1 \/ o <= 0 \/ 2147483648 <= o then (0, false) else (o / 2, true)
def oopM (id : Int) : Int:=if id < 1 \/ 1073741824 <= id then 0 else 2 * id
theorem i64_and_mask (n : Int) (k : Nat) (hk : k < 63) : bits .and .i64 n (2 ^ k - 1 : Nat) = n % (2 ^ k : Nat):=by
 have hp : (2 : Nat) ^ k < 2 ^ 63:=Nat.pow_lt_pow_right (by omega) hk;have hp0 : 0 < (2 : Nat) ^ k:=Nat.two_pow_pos k;have hm : (BitVec.ofInt 64 ((2 ^ k - 1 : Nat) : Int)).toNat = 2 ^ k - 1:=by rw [BitVec.toNat_ofInt];omega
 have key : (BitVec.ofInt 64 n &&& BitVec.ofInt 64 ((2 ^ k - 1 : Nat) : Int)).toNat = (n % ((2 ^ 64 : Nat) : Int)).toNat % 2 ^ k:=by rw [BitVec.toNat_and, BitVec.toNat_ofInt, hm, Nat.and_two_pow_sub_one_eq_mod]
 show IntKind.i64.wrap ((BitVec.ofInt 64 n &&& BitVec.ofInt 64 ((2 ^ k - 1 : Nat) : Int)).toNat : Nat) = n % (2 ^ k : Nat)
 rw [key, IntKind.wrap_i64];have hd : (2 : Nat) ^ k ∣ 2 ^ 64:=Nat.pow_dvd_pow 2 (by omega);have e : (((n % ((2 ^ 64 : Nat) : Int)).toNat % 2 ^ k : Nat) : Int) = n % ((2 ^ k : Nat) : Int):=by have h0 : 0 <= n % ((2 ^ 64 : Nat) : Int):=Int.emod_nonneg _ (by decide);rw [Int.natCast_emod, Int.toNat_of_nonneg h0, Int.emod_emod_of_dvd];exact Int.natCast_dvd_natCast.2 hd
 rw [e];have h1 : 0 <= n % ((2 ^ k : Nat) : Int):=Int.emod_nonneg _ (by omega);have h2 : n % ((2 ^ k : Nat) : Int) < ((2 ^ k : Nat) : Int):=Int.emod_lt_of_pos _ (by omega);generalize n % ((2 ^ k : Nat) : Int) = m at *;omega
theorem i64_and1 (n : Int) : bits .and .i64 n 1 = n % 2:=i64_and_mask n 1 (by omega)
theorem number_any (o : Int) (w : World) :
  Calls Tryz.prog 41 #[.int .i64 o] w fun e w' => e = .returned (.tuple #[.int .i64 (numM o).1, .bool (numM o).2]) /\ w = w':=by
 have ha:=i64_and1 o;by_cases h1 : o % 2 = 0
 ·have h1' : (o % 2 == 0) = true:=by simpa using h1
  have hr : numM o = (0, false):=by rw [numM, if_pos (Or.inl h1)]
  have HR:=hid hr;clear hr h1;go_enter Tryz.func41, Tryz.ntmps41;go_wp2;go_ret2;rw [HR.out];exact ⟨rfl, rfl⟩
 have h1' : (o % 2 == 0) = false:=by simpa using h1
 by_cases h2 : o / 2 < -1073741824
 ·have hr : numM o = (0, false):=by rw [numM, if_pos (Or.inr (Or.inl h2))]
  have HR:=hid hr;clear hr h1;go_enter Tryz.func41, Tryz.ntmps41;go_wp2;go_ret2;rw [HR.out];exact ⟨rfl, rfl⟩
 by_cases h3 : 1073741823 < o / 2
 ·have hr : numM o = (0, false):=by rw [numM, if_pos (Or.inr (Or.inr h3))]
  have HR:=hid hr;clear hr h1;go_enter Tryz.func41, Tryz.ntmps41;go_wp2;go_ret2;rw [HR.out];exact ⟨rfl, rfl⟩
 ·have hr : numM o = (o / 2, true):=by rw [numM, if_neg (by intro h; rcases h with h | h | h <;> contradiction)]
  have HR:=hid hr;clear hr h1;go_enter Tryz.func41, Tryz.ntmps41;go_wp2;go_ret2;rw [HR.out];exact ⟨rfl, rfl⟩
theorem named_any (o : Int) (w : World) :
  Calls Tryz.prog 46 #[.int .i64 o] w fun e w' => e = .returned (.tuple #[.int .i64 (namM o).1, .bool (namM o).2]) /\ w = w':=by
 have ha:=i64_and1 o;by_cases h1 : o % 2 = 1
 ·have h1' : (o % 2 == 1) = true:=by simpa using h1
  have hr : namM o = (0, false):=by rw [namM, if_pos (Or.inl h1)]
  have HR:=hid hr;clear hr h1;go_enter Tryz.func46, Tryz.ntmps46;go_wp2;go_ret2;rw [HR.out];exact ⟨rfl, rfl⟩
 have h1' : (o % 2 == 1) = false:=by simpa using h1
 by_cases h2 : o <= 0
 ·have hr : namM o = (0, false):=by rw [namM, if_pos (Or.inr (Or.inl h2))]
  have HR:=hid hr;clear hr h1;go_enter Tryz.func46, Tryz.ntmps46;go_wp2;go_ret2;rw [HR.out];exact ⟨rfl, rfl⟩
 by_cases h3 : 2147483648 <= o
 ·have hr : namM o = (0, false):=by rw [namM, if_pos (Or.inr (Or.inr h3))]
  have HR:=hid hr;clear hr h1;go_enter Tryz.func46, Tryz.ntmps46;go_wp2;go_ret2;rw [HR.out];exact ⟨rfl, rfl⟩
 ·have hr : namM o = (o / 2, true):=by rw [namM, if_neg (by intro h; rcases h with h | h | h <;> contradiction)]
  have HR:=hid hr;clear hr h1;go_enter Tryz.func46, Tryz.ntmps46;go_wp2;go_ret2;rw [HR.out];exact ⟨rfl, rfl⟩
theorem oop_any (i : Int) (w : World) :
  Calls Tryz.prog 39 #[.int .i64 i] w fun e w' => e = .returned (.int .i64 (oopM i)) /\ w = w':=by
 by_cases h1 : i < 1
 ·have hr : oopM i = 0:=by rw [oopM, if_pos (Or.inl h1)]
  have HR:=hid hr;clear hr;go_enter Tryz.func39, Tryz.ntmps39;go_wp2;go_ret;rw [HR.out];exact ⟨rfl, rfl⟩
 by_cases h2 : 1073741824 <= i
 ·have hr : oopM i = 0:=by rw [oopM, if_pos (Or.inr h2)]
  have HR:=hid hr;clear hr;go_enter Tryz.func39, Tryz.ntmps39;go_wp2;go_ret;rw [HR.out];exact ⟨rfl, rfl⟩
 ·have hr : oopM i = 2 * i:=by rw [oopM, if_neg (by omega)]
  have HR:=hid hr;clear hr;go_enter Tryz.func39, Tryz.ntmps39;go_wp2;go_ret;rw [HR.out];exact ⟨rfl, rfl⟩
theorem i64_or1 (x : Int) (h : x % 2 = 0) (h0 : 0 <= x) (h1 : x < 4611686018427387904) : bits .or .i64 x 1 = x + 1:=by
 obtain ⟨a, ha⟩ : ∃ a : Nat, x = a:=⟨x.toNat, by omega⟩;subst ha;have e : (BitVec.ofInt 64 ((a : Nat) : Int) ||| BitVec.ofInt 64 1).toNat = a + 1:=by
  rw [BitVec.toNat_or, BitVec.toNat_ofInt, BitVec.toNat_ofInt];have e1 : (((a : Nat) : Int) % ((2 ^ 64 : Nat) : Int)).toNat = a:=by omega
  have e2 : ((1 : Int) % ((2 ^ 64 : Nat) : Int)).toNat = 1:=by decide
  rw [e1, e2];have h2 : a = 2 ^ 1 * (a / 2):=by omega
  have:=Nat.two_pow_add_eq_or_of_lt (i:=1) (b:=1) (by decide) (a / 2);rw [<- h2] at this;exact this.symm
 show IntKind.i64.wrap ((BitVec.ofInt 64 ((a : Nat) : Int) ||| BitVec.ofInt 64 1).toNat : Nat) = _
 rw [e, IntKind.wrap_i64];omega
theorem i32_or8 (x y : Int) (h : x % 256 = 0) (h0 : -2147483648 <= x) (h1 : x <= 2147483647) (hy0 : 0 <= y) (hy1 : y < 256) : bits .or .i32 x y = x + y:=by
 obtain ⟨a, ha⟩ : ∃ a : Nat, a = (x % 4294967296).toNat:=⟨_, rfl⟩;obtain ⟨b, hb⟩ : ∃ b : Nat, y = b:=⟨y.toNat, by omega⟩;subst hb;have e : (BitVec.ofInt 32 x ||| BitVec.ofInt 32 ((b : Nat) : Int)).toNat = a + b:=by
  rw [BitVec.toNat_or, BitVec.toNat_ofInt, BitVec.toNat_ofInt];have e1 : (x % ((2 ^ 32 : Nat) : Int)).toNat = a:=by rw [ha]; rfl
  have e2 : (((b : Nat) : Int) % ((2 ^ 32 : Nat) : Int)).toNat = b:=by omega
  rw [e1, e2];have h2 : a = 2 ^ 8 * (a / 256):=by omega
  have:=Nat.two_pow_add_eq_or_of_lt (i:=8) (b:=b) (by omega) (a / 256);rw [<- h2] at this;exact this.symm
 show IntKind.i32.wrap ((BitVec.ofInt 32 x ||| BitVec.ofInt 32 ((b : Nat) : Int)).toNat : Nat) = _
 rw [e, IntKind.wrap_i32];omega
def nrwM (o : Int) : Int × Bool:=if (numM o).2 = false \/ (numM o).1 < -16384 \/ 16384 <= (numM o).1 then (0, false) else ((numM o).1 * 2 % 65536 + 1, true)
def widM (w : Int) : Int × Bool:=if w < 0 \/ 65535 < w \/ w % 2 = 0 then (0, false) else (if w < 32768 then w else w - 65536, true)
theorem narrow_any (o : Int) (w : World) :
  Calls Tryz.prog 173 #[.int .i64 o] w fun e w' => e = .returned (.tuple #[.int .i64 (nrwM o).1, .bool (nrwM o).2]) /\ w = w':=by
 have hN:=number_any o w;have hd : nrwM o = if (numM o).2 = false \/ (numM o).1 < -16384 \/ 16384 <= (numM o).1 then (0, false) else ((numM o).1 * 2 % 65536 + 1, true):=rfl
 obtain ⟨r, hr⟩ : ∃ r, r = numM o:=⟨_, rfl⟩;obtain ⟨R, hR⟩ : ∃ R, R = nrwM o:=⟨_, rfl⟩;rw [<- hr, <- hR] at hd;rw [<- hr] at hN;rw [<- hR];obtain ⟨n, ok⟩:=r;have HN:=hid hN;simp only at hd;clear hr hR hN;cases ok
 ·rw [if_pos (Or.inl rfl)] at hd;have HD:=hid hd;clear hd;go_enter Tryz.func173, Tryz.ntmps173;go_wp2_with fail;refine HN.out.mono ?_;rintro e w' ⟨rfl, rfl⟩;go_wp2;go_ret2;rw [HD.out];exact ⟨rfl, rfl⟩
 by_cases h1 : n < -16384
 ·rw [if_pos (Or.inr (Or.inl h1))] at hd;have HD:=hid hd;clear hd;go_enter Tryz.func173, Tryz.ntmps173;go_wp2_with fail;refine HN.out.mono ?_;rintro e w' ⟨rfl, rfl⟩;go_wp2;go_ret2;rw [HD.out];exact ⟨rfl, rfl⟩
 by_cases h2 : 16384 <= n
 ·rw [if_pos (Or.inr (Or.inr h2))] at hd;have HD:=hid hd;clear hd;go_enter Tryz.func173, Tryz.ntmps173;go_wp2_with fail;refine HN.out.mono ?_;rintro e w' ⟨rfl, rfl⟩;go_wp2;go_ret2;rw [HD.out];exact ⟨rfl, rfl⟩
 ·rw [if_neg (by intro h; rcases h with h | h | h; cases h; exact h1 h; exact h2 h)] at hd;have ha:=i64_and_mask (n * 2) 16 (by omega);have hb2:=i64_or1 (n * 2 % 65536) (by omega) (by omega) (by omega);have HD:=hid hd;simp at ha;clear hd;go_enter Tryz.func173, Tryz.ntmps173;go_wp2_with fail;refine HN.out.mono ?_;rintro e w' ⟨rfl, rfl⟩;go_wp2;go_ret2;rw [HD.out];exact ⟨rfl, rfl⟩
theorem wide_any (x : Int) (w : World) :
  Calls Tryz.prog 193 #[.int .i64 x] w fun e w' => e = .returned (.tuple #[.int .i64 (widM x).1, .bool (widM x).2]) /\ w = w':=by
 have ha:=i64_and1 x;by_cases h1 : x < 0
 ·have hr : widM x = (0, false):=by rw [widM, if_pos (Or.inl h1)]
  have HR:=hid hr;clear hr ha;go_enter Tryz.func193, Tryz.ntmps193;go_wp2;go_ret2;rw [HR.out];exact ⟨rfl, rfl⟩
 by_cases h2 : 65535 < x
 ·have hr : widM x = (0, false):=by rw [widM, if_pos (Or.inr (Or.inl h2))]
  have HR:=hid hr;clear hr ha;go_enter Tryz.func193, Tryz.ntmps193;go_wp2;go_ret2;rw [HR.out];exact ⟨rfl, rfl⟩
 by_cases h3 : x % 2 = 0
 ·have h3' : (x % 2 == 0) = true:=by simpa using h3
  have hr : widM x = (0, false):=by rw [widM, if_pos (Or.inr (Or.inr h3))]
  have HR:=hid hr;clear hr h3;go_enter Tryz.func193, Tryz.ntmps193;go_wp2;go_ret2;rw [HR.out];exact ⟨rfl, rfl⟩
 ·have h3' : (x % 2 == 0) = false:=by simpa using h3
  have hr : widM x = (if x < 32768 then x else x - 65536, true):=by rw [widM, if_neg (by intro h; rcases h with h | h | h <;> contradiction)]
  have hw2 : IntKind.u16.wrap x = x:=by simp [IntKind.wrap, IntKind.bits, IntKind.signed];omega
  by_cases h4 : x < 32768
  ·rw [if_pos h4] at hr;have hw : IntKind.i16.wrap x = x:=by simp [IntKind.wrap, IntKind.bits, IntKind.signed];omega
   have HR:=hid hr;clear hr h3;go_enter Tryz.func193, Tryz.ntmps193;go_wp2;go_ret2;rw [HR.out];exact ⟨rfl, rfl⟩
  ·rw [if_neg h4] at hr;have hw : IntKind.i16.wrap x = x - 65536:=by simp [IntKind.wrap, IntKind.bits, IntKind.signed];omega
   have HR:=hid hr;clear hr h3;go_enter Tryz.func193, Tryz.ntmps193;go_wp2;go_ret2;rw [HR.out];exact ⟨rfl, rfl⟩
theorem tmod2 (o : Int) : o.tmod 2 = 0 ↔ o % 2 = 0:=by
 have h1:=Int.tmod_add_mul_tdiv o 2;have h2:=Int.tmod_lt_of_pos o (show (0 : Int) < 2 by decide);have h3 : -2 < o.tmod 2:=by have:=Int.tmod_lt_of_pos (-o) (show (0 : Int) < 2 by decide);rw [Int.neg_tmod] at this;omega
 omega
theorem rnamed_any (o : Int) (w : World) :
  Calls Tryz.prog 53 #[.int .i64 o] w fun e w' => e = .returned (.tuple #[.int .i64 (namM o).1, .bool (namM o).2]) /\ w = w':=by
 have ht:=tmod2 o;by_cases h1 : o % 2 = 1
 ·have h1' : (o.tmod 2 != 0) = true:=by rw [bne_iff_ne]; omega
  have hr : namM o = (0, false):=by rw [namM, if_pos (Or.inl h1)]
  have HR:=hid hr;clear hr h1 ht;go_enter Tryz.func53, Tryz.ntmps53;go_wp2;go_ret2;rw [HR.out];exact ⟨rfl, rfl⟩
 have h1' : (o.tmod 2 != 0) = false:=by rw [bne_eq_false_iff_eq]; omega
 by_cases h2 : o < 2
 ·have hr : namM o = (0, false):=by rw [namM, if_pos (Or.inr (Or.inl (by omega)))]
  have HR:=hid hr;clear hr h1 ht;go_enter Tryz.func53, Tryz.ntmps53;go_wp2;go_ret2;rw [HR.out];exact ⟨rfl, rfl⟩
 have h1'' : (o % 2 != 0) = false:=by rw [bne_eq_false_iff_eq]; omega
 by_cases h3 : 2147483646 < o
 ·have hr : namM o = (0, false):=by rw [namM, if_pos (Or.inr (Or.inr (by omega)))]
  have HR:=hid hr;clear hr h1 ht;go_enter Tryz.func53, Tryz.ntmps53;go_wp2;go_ret2;rw [HR.out];exact ⟨rfl, rfl⟩
 ·have hr : namM o = (o / 2, true):=by rw [namM, if_neg (by omega)]
  have HR:=hid hr;clear hr h1 ht;go_enter Tryz.func53, Tryz.ntmps53;go_wp2;go_ret2;rw [HR.out];exact ⟨rfl, rfl⟩
theorem rnumber_any (o : Int) (w : World) (h : -9223372036854775808 <= o /\ o <= 9223372036854775807) :
  Calls Tryz.prog 56 #[.int .i64 o] w fun e w' => e = .returned (.tuple #[.int .i64 (numM o).1, .bool (numM o).2]) /\ w = w':=by
 have ht:=tmod2 o;by_cases h1 : o % 2 = 0
 ·have h1' : (o.tmod 2 == 0) = true:=by rw [beq_iff_eq]; omega
  have h1'' : (o % 2 == 0) = true:=by rw [beq_iff_eq]; omega
  have hr : numM o = (0, false):=by rw [numM, if_pos (Or.inl h1)]
  have HR:=hid hr;clear hr h1 ht;go_enter Tryz.func56, Tryz.ntmps56;go_wp2;go_ret2;rw [HR.out];exact ⟨rfl, rfl⟩
 have h1' : (o.tmod 2 == 0) = false:=by rw [beq_eq_false_iff_ne]; omega
 have h1'' : (o % 2 == 0) = false:=by rw [beq_eq_false_iff_ne]; omega
 by_cases h2 : o < -2147483647
 ·have hr : numM o = (0, false):=by rw [numM, if_pos (Or.inr (Or.inl (by omega)))]
  have HR:=hid hr;clear hr h1 ht;go_enter Tryz.func56, Tryz.ntmps56;go_wp2;go_ret2;rw [HR.out];exact ⟨rfl, rfl⟩
 by_cases h3 : 2147483647 < o
 ·have hr : numM o = (0, false):=by rw [numM, if_pos (Or.inr (Or.inr (by omega)))]
  have HR:=hid hr;clear hr h1 ht;go_enter Tryz.func56, Tryz.ntmps56;go_wp2;go_ret2;rw [HR.out];exact ⟨rfl, rfl⟩
 ·have hr : numM o = (o / 2, true):=by rw [numM, if_neg (by omega)]
  have hd : (o - 1).tdiv 2 = o / 2:=by
   have e : o - 1 = 2 * (o / 2):=by omega
   rw [e, Int.mul_tdiv_cancel_left _ (by decide)]
  have hd2 : (o - 1) / 2 = o / 2:=by omega
  have HR:=hid hr;have hw : IntKind.i64.wrap (o - 1) = o - 1:=by rw [IntKind.wrap_i64]; omega
  clear hr h1 ht;go_enter Tryz.func56, Tryz.ntmps56;go_wp2;go_ret2;rw [HR.out];exact ⟨rfl, rfl⟩
def refM (o : Int) : Bool:=(numM o).2 || (namM o).2
theorem refM_odd (o : Int) (h : o % 2 = 1) : refM o = (decide (-2147483647 <= o) && decide (o <= 2147483647)):=by
 unfold refM numM namM;rw [if_pos (Or.inl h)];by_cases h1 : -2147483647 <= o /\ o <= 2147483647
 ·rw [if_neg (by omega), decide_eq_true h1.1, decide_eq_true h1.2]; rfl
 ·rw [if_pos (by omega)];by_cases h2 : -2147483647 <= o
  ·rw [decide_eq_true h2, decide_eq_false (by omega)]; rfl
  ·rw [decide_eq_false h2]; rfl
theorem refM_even (o : Int) (h : o % 2 = 0) : refM o = (decide (0 < o) && decide (o < 2147483648)):=by
 unfold refM numM namM;rw [if_pos (Or.inl h)];by_cases h1 : 0 < o /\ o < 2147483648
 ·rw [if_neg (by omega), decide_eq_true h1.1, decide_eq_true h1.2]; rfl
 ·rw [if_pos (by omega)];by_cases h2 : 0 < o
  ·rw [decide_eq_true h2, decide_eq_false (by omega)]; rfl
  ·rw [decide_eq_false h2]; rfl
theorem wref_any (o : Int) (w : World) : Calls Tryz.prog 83 #[.int .i64 o] w fun e w' => e = .returned (.bool (refM o)) /\ w = w':=by
 have h1:=number_any o w;have h2:=named_any o w;obtain ⟨r, hr⟩ : ∃ r, r = numM o:=⟨_, rfl⟩;obtain ⟨q, hq⟩ : ∃ q, q = namM o:=⟨_, rfl⟩;have hR : refM o = (r.2 || q.2):=by rw [hr, hq]; rfl
 obtain ⟨R, hRR⟩ : ∃ R, R = refM o:=⟨_, rfl⟩;rw [<- hRR] at hR ⊢;rw [<- hr] at h1;rw [<- hq] at h2;have H1:=hid h1;have H2:=hid h2;obtain ⟨n, ok⟩:=r;obtain ⟨i, named⟩:=q;simp only at hR;clear h1 h2 hr hq hRR;cases ok <;> cases named
 all_goals
  subst hR;go_enter Tryz.func83, Tryz.ntmps83;go_wp2_with fail;refine H1.out.mono ?_;rintro e w' ⟨rfl, rfl⟩;go_wp2_with fail;refine H2.out.mono ?_;rintro e w' ⟨rfl, rfl⟩;go_wp2;go_ret;exact ⟨rfl, rfl⟩
theorem fref_any (o : Int) (w : World) : Calls Tryz.prog 172 #[.int .i64 o] w fun e w' => e = .returned (.bool (refM o)) /\ w = w':=by
 have h1:=number_any o w;have h2:=named_any o w;obtain ⟨r, hr⟩ : ∃ r, r = numM o:=⟨_, rfl⟩;obtain ⟨q, hq⟩ : ∃ q, q = namM o:=⟨_, rfl⟩;have hR : refM o = (r.2 || q.2):=by rw [hr, hq]; rfl
 obtain ⟨R, hRR⟩ : ∃ R, R = refM o:=⟨_, rfl⟩;rw [<- hRR] at hR ⊢;rw [<- hr] at h1;rw [<- hq] at h2;have H1:=hid h1;have H2:=hid h2;obtain ⟨n, ok⟩:=r;obtain ⟨i, named⟩:=q;simp only at hR;clear h1 h2 hr hq hRR;cases ok <;> cases named
 all_goals
  subst hR;go_enter Tryz.func172, Tryz.ntmps172;go_wp2_with fail;refine H1.out.mono ?_;rintro e w' ⟨rfl, rfl⟩;go_wp2_with fail;refine H2.out.mono ?_;rintro e w' ⟨rfl, rfl⟩;go_wp2;go_ret;exact ⟨rfl, rfl⟩
theorem rref_any (o : Int) (w : World) : Calls Tryz.prog 54 #[.int .i64 o] w fun e w' => e = .returned (.bool (refM o)) /\ w = w':=by
 have ht:=tmod2 o;by_cases h1 : o % 2 = 0
 ·have hR:=refM_even o h1;obtain ⟨R, hRR⟩ : ∃ R, R = refM o:=⟨_, rfl⟩;rw [<- hRR] at hR ⊢;have e1 : (o.tmod 2 == 0) = true:=by rw [beq_iff_eq]; omega
  have e2 : (o % 2 == 0) = true:=by rw [beq_iff_eq]; omega
  have e3 : (o.tmod 2 != 0) = false:=by rw [bne_eq_false_iff_eq]; omega
  have e4 : (o % 2 != 0) = false:=by rw [bne_eq_false_iff_eq]; omega
  clear hRR ht h1;by_cases h2 : 0 < o
  ·by_cases h3 : o < 2147483648
   ·obtain rfl : R = true:=by rw [hR, decide_eq_true h2, decide_eq_true h3]; rfl
    clear hR;go_enter Tryz.func54, Tryz.ntmps54;go_wp2;go_ret;exact ⟨rfl, rfl⟩
   ·obtain rfl : R = false:=by rw [hR, decide_eq_true h2, decide_eq_false h3]; rfl
    clear hR;go_enter Tryz.func54, Tryz.ntmps54;go_wp2;go_ret;exact ⟨rfl, rfl⟩
  ·obtain rfl : R = false:=by rw [hR, decide_eq_false h2]; rfl
   clear hR;go_enter Tryz.func54, Tryz.ntmps54;go_wp2;go_ret;exact ⟨rfl, rfl⟩
 ·have hR:=refM_odd o (by omega);obtain ⟨R, hRR⟩ : ∃ R, R = refM o:=⟨_, rfl⟩;rw [<- hRR] at hR ⊢;have e1 : (o.tmod 2 == 0) = false:=by rw [beq_eq_false_iff_ne]; omega
  have e2 : (o % 2 == 0) = false:=by rw [beq_eq_false_iff_ne]; omega
  have e3 : (o.tmod 2 != 0) = true:=by rw [bne_iff_ne]; omega
  have e4 : (o % 2 != 0) = true:=by rw [bne_iff_ne]; omega
  clear hRR ht h1;by_cases h2 : -2147483647 <= o
  ·by_cases h3 : o <= 2147483647
   ·obtain rfl : R = true:=by rw [hR, decide_eq_true h2, decide_eq_true h3]; rfl
    clear hR;go_enter Tryz.func54, Tryz.ntmps54;go_wp2;go_ret;exact ⟨rfl, rfl⟩
   ·obtain rfl : R = false:=by rw [hR, decide_eq_true h2, decide_eq_false h3]; rfl
    clear hR;go_enter Tryz.func54, Tryz.ntmps54;go_wp2;go_ret;exact ⟨rfl, rfl⟩
  ·obtain rfl : R = false:=by rw [hR, decide_eq_false h2]; rfl
   clear hR;go_enter Tryz.func54, Tryz.ntmps54;go_wp2;go_ret;exact ⟨rfl, rfl⟩
def sgn32 (n : Int) : Int:=if n < 2147483648 then n else n - 4294967296
def fourM (bs : List Int) (i : Nat) : Int:=((bs.getD i 0 * 256 + bs.getD (i + 1) 0) * 256 + bs.getD (i + 2) 0) * 256 + bs.getD (i + 3) 0
def getM (bs : List Int) (at_ : Int) : Int × Int:=if at_ < 0 \/ (bs.length : Int) < at_ + 4 then (0, 2) else (sgn32 (fourM bs at_.toNat), 0)
def valG (x0 x1 x2 x3 : Int) : Nat -> Int
 | 0 => 0
 | 1 => x0
 | 2 => x0 * 256 + x1
 | 3 => (x0 * 256 + x1) * 256 + x2
 | _ => sgn32 (((x0 * 256 + x1) * 256 + x2) * 256 + x3)
theorem get_any (w : World) (A : Option Addr) (bs : List Int) (cap : Nat) (i : Int) (hcap : cap <= 9223372036854775807) (hlen : bs.length <= cap) (hB : Byts w A bs) :
  Calls Tryz.prog 96 #[.slice A bs.length cap, .int .i64 i] w fun e w' => e = .returned (.tuple #[.int .i64 (getM bs i).1, .int .i64 (getM bs i).2]) /\ w = w':=by
 obtain ⟨n, hn⟩ : ∃ n, n = bs.length:=⟨_, rfl⟩;obtain ⟨R, hR⟩ : ∃ R, R = getM bs i:=⟨_, rfl⟩;have hR2:=hR;rw [getM, <- hn] at hR2;rw [<- hR];rw [<- hn] at hlen ⊢;have HN:=hid hn;clear hR hn;by_cases h0 : i < 0
 ·rw [if_pos (Or.inl h0)] at hR2;have HR:=hid hR2;clear hR2 hB;go_enter Tryz.func96, Tryz.ntmps96;go_wp2;go_ret2;rw [HR.out];exact ⟨rfl, rfl⟩
 by_cases h1 : (n : Int) - 4 < i
 ·rw [if_pos (Or.inr (by omega))] at hR2;have HR:=hid hR2;clear hR2 hB;go_enter Tryz.func96, Tryz.ntmps96;go_wp2;go_ret2;rw [HR.out];exact ⟨rfl, rfl⟩
 obtain ⟨k, rfl⟩ : ∃ k : Nat, i = k:=⟨i.toNat, by omega⟩;rw [if_neg (by omega), Int.toNat_natCast] at hR2;obtain ⟨x0, hx0⟩ : ∃ x, bs[k]? = some x:=⟨_, getElem?_eq_getElem (by have:=HN.out; omega)⟩;obtain ⟨x1, hx1⟩ : ∃ x, bs[k + 1]? = some x:=⟨_, getElem?_eq_getElem (by have:=HN.out; omega)⟩;obtain ⟨x2, hx2⟩ : ∃ x, bs[k + 2]? = some x:=⟨_, getElem?_eq_getElem (by have:=HN.out; omega)⟩;obtain ⟨x3, hx3⟩ : ∃ x, bs[k + 3]? = some x:=⟨_, getElem?_eq_getElem (by have:=HN.out; omega)⟩;obtain ⟨a0, b0, b, off, rfl, hb, c0⟩:=hB k x0 hx0;obtain ⟨a1, b1, b', off', hA', _, c1⟩:=hB (k + 1) x1 hx1;obtain ⟨rfl, rfl⟩ : b = b' /\ off = off':=by simpa using hA'
 obtain ⟨a2, b2, b', off', hA', _, c2⟩:=hB (k + 2) x2 hx2;obtain ⟨rfl, rfl⟩ : b = b' /\ off = off':=by simpa using hA'
 obtain ⟨a3, b3, b', off', hA', _, c3⟩:=hB (k + 3) x3 hx3;obtain ⟨rfl, rfl⟩ : b = b' /\ off = off':=by simpa using hA'
 have g0 : bs.getD k 0 = x0:=by simp [List.getD, hx0]
 have g1 : bs.getD (k + 1) 0 = x1:=by simp [List.getD, hx1]
 have g2 : bs.getD (k + 2) 0 = x2:=by simp [List.getD, hx2]
 have g3 : bs.getD (k + 3) 0 = x3:=by simp [List.getD, hx3]
 rw [fourM, g0, g1, g2, g3] at hR2;have HR:=hid hR2;have hcap' : n <= cap:=hlen;clear hR2 g0 g1 g2 g3 hx0 hx1 hx2 hx3 hB hA';rw [<- Nat.add_assoc] at c1 c2 c3;have o1:=i32_or8 (x0 * 256) x1 (by omega) (by omega) (by omega) a1 (by omega);have o2:=i32_or8 ((x0 * 256 + x1) * 256) x2 (by omega) (by omega) (by omega) a2 (by omega);obtain ⟨v3, hv3⟩ : ∃ v3, v3 = (x0 * 256 + x1) * 256 + x2:=⟨_, rfl⟩;obtain ⟨w3, hw3⟩ : ∃ w3, w3 = IntKind.i32.wrap (v3 * 256):=⟨_, rfl⟩;have hv3' : 0 <= v3 /\ v3 <= 16777215:=by omega
 have hw4:=hw3;rw [IntKind.wrap_i32] at hw4;have hs : w3 + x3 = sgn32 (v3 * 256 + x3):=by unfold sgn32; split <;> omega
 have o3:=i32_or8 w3 x3 (by omega) (by omega) (by omega) a3 (by omega);have hwr:=hw3.symm;have o0 : bits .or .i32 0 x0 = x0:=by have:=i32_or8 0 x0 (by omega) (by omega) (by omega) a0 (by omega); rwa [Int.zero_add] at this
 have HS:=hid hs;have HV3:=hid hv3;clear hv3 hw3 hw4 hs;go_enter Tryz.func96, Tryz.ntmps96;go_wp2;go_loopg [6, 8, 24] 4 (fun g s6 s8 s24 wr => ∃ j : Nat, j + g = 4 /\ s24 = .int .i64 j /\ s6 = .int .i32 (valG x0 x1 x2 x3 j) /\ wr = w)
 case atStart => exact ⟨0, rfl, rfl, rfl, rfl⟩
 case round =>
  obtain ⟨j, hj, rfl, rfl, hwr⟩:=hrel;subst hwr;cases gk with
  | zero =>
   obtain rfl : j = 4:=by omega
   have e : valG x0 x1 x2 x3 4 = sgn32 (((x0 * 256 + x1) * 256 + x2) * 256 + x3):=rfl;rw [<- e] at HR;have hVb : -2147483648 <= valG x0 x1 x2 x3 4 /\ valG x0 x1 x2 x3 4 <= 2147483647:=by rw [e]; unfold sgn32; split <;> omega
   obtain ⟨V, hV⟩ : ∃ V, V = valG x0 x1 x2 x3 4:=⟨_, rfl⟩;rw [<- hV] at HR hVb ⊢;clear hV e;go_wp2;go_ret2;rw [HR.out];exact ⟨rfl, rfl⟩
  | succ g =>
   rcases (show j = 0 \/ j = 1 \/ j = 2 \/ j = 3 by omega) with rfl | rfl | rfl | rfl
   ·have e0 : valG x0 x1 x2 x3 0 = 0:=rfl;rw [e0];clear e0;go_wp2;go_roundg g
    case measure => omega
    case rel => exact ⟨1, by omega, by go_num, rfl, rfl⟩
   ·have e0 : valG x0 x1 x2 x3 1 = x0:=rfl;rw [e0];clear e0;go_wp2;go_roundg g
    case measure => omega
    case rel => exact ⟨2, by omega, by go_num, rfl, rfl⟩
   ·have e0 : valG x0 x1 x2 x3 2 = x0 * 256 + x1:=rfl;rw [e0];clear e0;go_wp2;go_roundg g
    case measure => omega
    case rel => exact ⟨3, by omega, by go_num, rfl, rfl⟩
   ·have e0 : valG x0 x1 x2 x3 3 = v3:=by rw [HV3.out]; rfl
    have e4 : valG x0 x1 x2 x3 4 = w3 + x3:=by rw [HS.out, HV3.out]; rfl
    have E4:=hid e4;rw [e0];clear e0 e4;go_wp2;go_roundg g
    case measure => omega
    case rel => exact ⟨4, by omega, by go_num, by rw [E4.out], rfl⟩
structure Ob where
 cls : Int
 kind : Int
 ws : List Int
 bs : List Int
deriving DecidableEq
def obV (o : Ob) (A : Option Addr) (ca : Nat) (B : Option Addr) (cb : Nat) : Array Value:=#[.int .i64 o.cls, .int .i64 o.kind, .slice A o.ws.length ca, .slice B o.bs.length cb]
structure ObR (w : World) (o : Ob) (A : Option Addr) (ca : Nat) (B : Option Addr) (cb : Nat) : Prop where
 ints : Ints w A o.ws
 byts : Byts w B o.bs
 la : o.ws.length <= ca
 lb : o.bs.length <= cb
 ca63 : ca <= 9223372036854775807
 cb63 : cb <= 9223372036854775807
 na : A = none -> ca = 0
 nb : B = none -> cb = 0
 cls : -9223372036854775808 <= o.cls /\ o.cls <= 9223372036854775807
 kind : -9223372036854775808 <= o.kind /\ o.kind <= 9223372036854775807
theorem ObR.below {w w' : World} {o : Ob} {A : Option Addr} {ca : Nat} {B : Option Addr} {cb : Nat} (h : ObR w o A ca B cb) (hb : Below w.heap.size w w') : ObR w' o A ca B cb :=
 ⟨h.ints.below hb, h.byts.below hb, h.la, h.lb, h.ca63, h.cb63, h.na, h.nb, h.cls, h.kind⟩
theorem ObR.alloc {w : World} {o : Ob} {A : Option Addr} {ca : Nat} {B : Option Addr} {cb : Nat} (h : ObR w o A ca B cb) (x : Obj) : ObR (w.alloc x) o A ca B cb:=h.below ((Below.refl _ w).alloc (Nat.le_refl _) x)
def sizeM (o : Ob) : Nat:=if o.kind = 1 then o.ws.length else if o.kind = 2 then o.bs.length else 0
def checkM (o : Ob) : Bool:=(namM o.cls).2 && ((o.kind == 1 && (o.bs.length == 0 && (decide (o.ws.length <= 1000) && o.ws.all refM))) || (o.kind == 2 && (o.ws.length == 0 && decide (o.bs.length <= 1000))))
def refsM (o : Ob) : List Int:=(o.cls :: o.ws).filterMap fun v => if (namM v).2 then some (namM v).1 else none
theorem size_any (o : Ob) (A : Option Addr) (ca : Nat) (B : Option Addr) (cb : Nat) (w : World) :
  Calls Tryz.prog 52 #[.agg (obV o A ca B cb)] w fun e w' => e = .returned (.int .i64 (sizeM o)) /\ Below w.heap.size w w':=by
 have hb:=(Below.refl w.heap.size w).alloc (Nat.le_refl _) (.cells (obV o A ca B cb) 29);obtain ⟨cls, kind, ws, bs⟩:=o;obtain ⟨p, hp⟩ : ∃ p, p = ws.length:=⟨_, rfl⟩;obtain ⟨q, hq⟩ : ∃ q, q = bs.length:=⟨_, rfl⟩;by_cases h1 : kind = 1
 ·have hs : sizeM ⟨cls, kind, ws, bs⟩ = p:=by rw [sizeM, if_pos h1, hp]
  rw [hs];unfold obV at hb ⊢;simp only at hb ⊢;rw [<- hp, <- hq] at hb ⊢;subst h1;clear hs hp hq;go_enter Tryz.func52, Tryz.ntmps52;go_wp2;go_ret;exact ⟨rfl, hb⟩
 by_cases h2 : kind = 2
 ·have hs : sizeM ⟨cls, kind, ws, bs⟩ = q:=by rw [sizeM, if_neg h1, if_pos h2, hq]
  rw [hs];unfold obV at hb ⊢;simp only at hb ⊢;rw [<- hp, <- hq] at hb ⊢;subst h2;clear hs hp hq h1;go_enter Tryz.func52, Tryz.ntmps52;go_wp2;go_ret;exact ⟨rfl, hb⟩
 ·have hs : sizeM ⟨cls, kind, ws, bs⟩ = 0:=by rw [sizeM, if_neg h1, if_neg h2]
  rw [hs];unfold obV at hb ⊢;simp only at hb ⊢;rw [<- hp, <- hq] at hb ⊢;have e1 : (kind == 1) = false:=by simpa using h1
  have e2 : (kind == 2) = false:=by simpa using h2
  clear hs hp hq h1 h2;go_enter Tryz.func52, Tryz.ntmps52;go_wp2;go_ret;exact ⟨rfl, hb⟩
theorem not_ref_any (x : Int) (w : World) : Calls Tryz.prog 82 #[.int .i64 x] w fun e w' => e = .returned (.bool (!refM x)) /\ w = w':=by
 have h:=wref_any x w;obtain ⟨r, hr⟩ : ∃ r, r = refM x:=⟨_, rfl⟩;rw [<- hr] at h ⊢;have H:=hid h;clear h hr;cases r
 all_goals
  go_enter Tryz.func82, Tryz.ntmps82;go_wp2_with fail;refine H.out.mono ?_;rintro e w' ⟨rfl, rfl⟩;go_wp2;go_ret;exact ⟨rfl, rfl⟩
def idxP (p : Int -> Bool) (xs : List Int) : Int:=match xs.findIdx? p with
 | some i => i
 | none => -1
theorem idxP_any (p : Int -> Bool) (xs : List Int) : decide (0 <= idxP p xs) = xs.any p:=by
 unfold idxP;cases h : xs.findIdx? p with
 | none =>
  rw [List.findIdx?_eq_none_iff] at h;have : xs.any p = false:=by rw [List.any_eq_false];intro x hx;simp [h x hx]
  rw [this]; rfl
 | some i => have hi:=List.findIdx?_eq_some_iff_getElem.1 h;obtain ⟨hi1, hi2, _⟩:=hi;have : xs.any p = true:=List.any_eq_true.2 ⟨xs[i], List.getElem_mem hi1, hi2⟩;rw [this];simp
theorem idx82_any (w : World) (A : Option Addr) (xs : List Int) (cap : Nat) (hA : Ints w A xs) (hl : xs.length <= 9223372036854775807) :
  Calls Tryz.prog 108 #[.slice A xs.length cap, .func (.func 82) #[] #[]] w fun e w' => e = .returned (.int .i64 (idxP (fun x => !refM x) xs)) /\ w = w':=by
 obtain ⟨n, hn⟩ : ∃ n, n = xs.length:=⟨_, rfl⟩;obtain ⟨R, hR⟩ : ∃ R, R = idxP (fun x => !refM x) xs:=⟨_, rfl⟩;rw [<- hR, <- hn];rw [<- hn] at hl;have HN:=hid hn;have HR:=hid hR;have HA:=hid hA;clear hn hR hA;go_enter Tryz.func108, Tryz.ntmps108;go_wp2;go_loopg [8] n (fun g s8 wr => ∃ j : Nat, j + g = n /\ s8 = .int .i64 j /\ wr = w /\ Aside (∀ i, i < j -> ∀ x, xs[i]? = some x -> refM x = true))
 case atStart => exact ⟨0, by omega, rfl, rfl, fun i hi => absurd hi (by omega)⟩
 case round =>
  obtain ⟨j, hj, rfl, hwr, hall⟩:=hrel;subst wr;cases gk with
  | zero =>
   have hjn : ¬ ((j : Int) < n):=by omega
   have hr : R = -1:=by
    rw [HR.out, idxP];have : xs.findIdx? (fun x => !refM x) = none:=by rw [List.findIdx?_eq_none_iff];intro x hx;obtain ⟨i, hi⟩:=List.getElem?_of_mem hx;have hil:=(List.getElem?_eq_some_iff.1 hi).1;have:=hall.out i (by have:=HN.out; omega) x hi;simp [this]
    rw [this]
   have HRR:=hid hr;clear hr hall;go_wp2;go_ret;rw [HRR.out];exact ⟨rfl, rfl⟩
  | succ g =>
   have hjn : (j : Int) < n:=by omega
   obtain ⟨x, hx⟩ : ∃ x, xs[j]? = some x:=⟨_, getElem?_eq_getElem (by have:=HN.out; omega)⟩;obtain ⟨_, b, off, rfl, _, c0⟩:=HA.out j x hx;have hp:=not_ref_any x w;obtain ⟨r, hr⟩ : ∃ r, r = refM x:=⟨_, rfl⟩;rw [<- hr] at hp;have HP:=hid hp;have HX:=hid hx;have HRX:=hid hr;clear hp hx hr;cases r
   ·have hres : R = (j : Int):=by
     rw [HR.out, idxP];have : xs.findIdx? (fun x => !refM x) = some j:=by
      rw [List.findIdx?_eq_some_iff_getElem];have hjl:=(List.getElem?_eq_some_iff.1 HX.out).1;refine ⟨hjl, ?_, ?_⟩
      ·have : xs[j] = x:=by have:=HX.out; rw [getElem?_eq_getElem hjl] at this; exact Option.some.inj this
       rw [this, <- HRX.out]; rfl
      ·intro i hi;have:=hall.out i hi _ (getElem?_eq_getElem (by omega));simp [this]
     rw [this]
    have HRR:=hid hres;clear hres hall;go_wp2_with fail;refine HP.out.mono ?_;rintro e w' ⟨rfl, rfl⟩;go_wp2;go_ret;rw [HRR.out];exact ⟨rfl, rfl⟩
   ·have hall2 : Aside (∀ i, i < j + 1 -> ∀ y, xs[i]? = some y -> refM y = true):=by
     intro i hi y hy;by_cases e : i = j
     ·subst e;have:=HX.out;rw [hy] at this;obtain rfl:=Option.some.inj this;exact HRX.out.symm
     ·exact hall.out i (by omega) y hy
    clear hall;go_wp2_with fail;refine HP.out.mono ?_;rintro e w' ⟨rfl, rfl⟩;go_wp2;go_roundg g
    case measure => omega
    case rel => exact ⟨j + 1, by omega, by go_num, rfl, hall2⟩
theorem any_not (xs : List Int) : (xs.any fun x => !refM x) = !xs.all refM:=by
 induction xs with
 | nil => rfl
 | cons x xs ih => simp only [List.any_cons, List.all_cons, ih, Bool.not_and]
theorem has82_any (w : World) (A : Option Addr) (xs : List Int) (cap : Nat) (hA : Ints w A xs) (hl : xs.length <= 9223372036854775807) :
  Calls Tryz.prog 77 #[.slice A xs.length cap, .func (.func 82) #[] #[]] w fun e w' => e = .returned (.bool (!xs.all refM)) /\ w = w':=by
 have h:=idx82_any w A xs cap hA hl;have hd:=idxP_any (fun x => !refM x) xs;rw [any_not] at hd;obtain ⟨R, hR⟩ : ∃ R, R = !xs.all refM:=⟨_, rfl⟩;obtain ⟨i, hi⟩ : ∃ i, i = idxP (fun x => !refM x) xs:=⟨_, rfl⟩;obtain ⟨n, hn⟩ : ∃ n, n = xs.length:=⟨_, rfl⟩;rw [<- hR, <- hn];rw [<- hi, <- hn] at h;rw [<- hi, <- hR] at hd;have H:=hid h;clear h hR hi hn hA hl;cases R
 ·go_enter Tryz.func77, Tryz.ntmps77;go_wp2_with fail;refine H.out.mono ?_;rintro e w' ⟨rfl, rfl⟩;go_wp2;go_ret;exact ⟨rfl, rfl⟩
 ·go_enter Tryz.func77, Tryz.ntmps77;go_wp2_with fail;refine H.out.mono ?_;rintro e w' ⟨rfl, rfl⟩;go_wp2;go_ret;exact ⟨rfl, rfl⟩
def errOf (b : Bool) : Int:=if b then 0 else 2
theorem check_any (o : Ob) (A : Option Addr) (ca : Nat) (B : Option Addr) (cb : Nat) (w : World) (hO : ObR w o A ca B cb) :
  Calls Tryz.prog 51 #[.agg (obV o A ca B cb)] w fun e w' => e = .returned (.int .i64 (errOf (checkM o))) /\ Below w.heap.size w w':=by
 have hb:=(Below.refl w.heap.size w).alloc (Nat.le_refl _) (.cells (obV o A ca B cb) 29);have hnm:=named_any o.cls (w.alloc (.cells (obV o A ca B cb) 29));have hhas:=has82_any (w.alloc (.cells (obV o A ca B cb) 29)) A o.ws ca (hO.ints.alloc _) (by have:=hO.la; have:=hO.ca63; omega);have hck : checkM o = ((namM o.cls).2 && ((o.kind == 1 && (o.bs.length == 0 && (decide (o.ws.length <= 1000) && o.ws.all refM))) || (o.kind == 2 && (o.ws.length == 0 && decide (o.bs.length <= 1000))))):=rfl;have b1:=hO.la; have b2:=hO.lb; have b3:=hO.ca63; have b4:=hO.cb63;obtain ⟨cls, kind, ws, bs⟩:=o;unfold obV at *;simp only at *;obtain ⟨p, hp⟩ : ∃ p, p = ws.length:=⟨_, rfl⟩;obtain ⟨q, hq⟩ : ∃ q, q = bs.length:=⟨_, rfl⟩;obtain ⟨r, hr⟩ : ∃ r, r = namM cls:=⟨_, rfl⟩;obtain ⟨al, hal⟩ : ∃ al, al = ws.all refM:=⟨_, rfl⟩;obtain ⟨R, hR⟩ : ∃ R, R = checkM ⟨cls, kind, ws, bs⟩:=⟨_, rfl⟩;rw [<- hR] at hck ⊢;rw [<- hp, <- hq, <- hr, <- hal] at hck;rw [<- hp, <- hq] at hb hnm hhas ⊢;rw [<- hr] at hnm;rw [<- hal] at hhas;rw [<- hp] at b1;rw [<- hq] at b2;obtain ⟨id, ok⟩:=r;simp only at hck;have HN:=hid hnm;have HH:=hid hhas;clear hR hp hq hr hal hnm hhas hO;have hq0 : q = 0 \/ 0 < q:=by omega
 have hp0 : p = 0 \/ 0 < p:=by omega
 by_cases h1 : kind = 1
 ·subst h1;cases ok
  ·obtain rfl : R = false:=by rw [hck]; rfl
   clear hck;go_enter Tryz.func51, Tryz.ntmps51;go_wp2_with fail;refine HN.out.mono ?_;rintro e w' ⟨rfl, rfl⟩;go_wp2;go_ret;exact ⟨rfl, hb⟩
  rcases hq0 with rfl | hq0
  ·by_cases h3 : p <= 1000
   ·have e3 : decide (p <= 1000) = true:=by simpa using h3
    obtain rfl : R = al:=by rw [hck, e3]; simp
    clear hck e3;cases R
    ·go_enter Tryz.func51, Tryz.ntmps51;go_wp2_with fail;refine HN.out.mono ?_;rintro e w' ⟨rfl, rfl⟩;go_wp2_with fail;refine HH.out.mono ?_;rintro e w' ⟨rfl, rfl⟩;go_wp2;go_ret;exact ⟨rfl, hb⟩
    ·go_enter Tryz.func51, Tryz.ntmps51;go_wp2_with fail;refine HN.out.mono ?_;rintro e w' ⟨rfl, rfl⟩;go_wp2_with fail;refine HH.out.mono ?_;rintro e w' ⟨rfl, rfl⟩;go_wp2;go_ret;exact ⟨rfl, hb⟩
   ·have e3 : decide (p <= 1000) = false:=by simpa using h3
    obtain rfl : R = false:=by rw [hck, e3]; simp
    have h3' : ¬ ((p : Int) <= 1000):=by omega
    clear hck e3;go_enter Tryz.func51, Tryz.ntmps51;go_wp2_with fail;refine HN.out.mono ?_;rintro e w' ⟨rfl, rfl⟩;go_wp2;go_ret;exact ⟨rfl, hb⟩
  ·have e3 : (q == 0) = false:=by rw [beq_eq_false_iff_ne]; omega
   have e4 : ((q : Int) == 0) = false:=by rw [beq_eq_false_iff_ne]; omega
   obtain rfl : R = false:=by rw [hck, e3]; simp
   clear hck;go_enter Tryz.func51, Tryz.ntmps51;go_wp2_with fail;refine HN.out.mono ?_;rintro e w' ⟨rfl, rfl⟩;go_wp2;go_ret;exact ⟨rfl, hb⟩
 by_cases h2 : kind = 2
 ·subst h2;cases ok
  ·obtain rfl : R = false:=by rw [hck]; rfl
   clear hck;go_enter Tryz.func51, Tryz.ntmps51;go_wp2_with fail;refine HN.out.mono ?_;rintro e w' ⟨rfl, rfl⟩;go_wp2;go_ret;exact ⟨rfl, hb⟩
  rcases hp0 with rfl | hp0
  ·by_cases h3 : q <= 1000
   ·have e3 : decide (q <= 1000) = true:=by simpa using h3
    obtain rfl : R = true:=by rw [hck, e3]; rfl
    have e5 : decide ((q : Int) <= 1000) = true:=by simp; omega
    clear hck e3;go_enter Tryz.func51, Tryz.ntmps51;go_wp2_with fail;refine HN.out.mono ?_;rintro e w' ⟨rfl, rfl⟩;go_wp2;go_ret;exact ⟨rfl, hb⟩
   ·have e3 : decide (q <= 1000) = false:=by simpa using h3
    obtain rfl : R = false:=by rw [hck, e3]; simp
    have e5 : decide ((q : Int) <= 1000) = false:=by simp; omega
    clear hck e3;go_enter Tryz.func51, Tryz.ntmps51;go_wp2_with fail;refine HN.out.mono ?_;rintro e w' ⟨rfl, rfl⟩;go_wp2;go_ret;exact ⟨rfl, hb⟩
  ·have e3 : (p == 0) = false:=by rw [beq_eq_false_iff_ne]; omega
   have e4 : ((p : Int) == 0) = false:=by rw [beq_eq_false_iff_ne]; omega
   obtain rfl : R = false:=by rw [hck, e3]; simp
   clear hck;go_enter Tryz.func51, Tryz.ntmps51;go_wp2_with fail;refine HN.out.mono ?_;rintro e w' ⟨rfl, rfl⟩;go_wp2;go_ret;exact ⟨rfl, hb⟩
 ·have e1 : (kind == 1) = false:=by simpa using h1
  have e2 : (kind == 2) = false:=by simpa using h2
  obtain rfl : R = false:=by rw [hck, e1, e2]; simp
  clear hck h1 h2;go_enter Tryz.func51, Tryz.ntmps51;go_wp2_with fail;refine HN.out.mono ?_;rintro e w' ⟨rfl, rfl⟩;go_wp2;go_ret;exact ⟨rfl, hb⟩
end Go.Proofs.YtgaemfghpibeeaaGreatDoor
namespace Go.Proofs.YtgaemfghpibeeaaGreatDoor
def getO (V : List Ob) (o : Int) : Option Ob:=if (namM o).2 then V[(namM o).1.toNat - 1]? else none
def headM (v : Int) : Bool:=(numM v).2 && (decide (0 <= (numM v).1) && (decide ((numM v).1 % 16 <= (numM v).1 / 16 % 32) && decide ((numM v).1 / 16 % 32 <= 20)))
def methM (o : Ob) : Option Int:=if o.kind = 1 /\ 2 <= o.ws.length /\ headM (o.ws.getD 0 0) = true then some (o.ws.getD 1 0) else none
section
variable (jm : List Int -> Bool)
def codedM (V : List Ob) (o : Ob) : Bool:=match methM o with
 | none => true
 | some c => match getO V c with
  | none => true
  | some x => decide (x.kind ≠ 2) || jm x.bs
structure Valid (V : List Ob) (f : Int) : Prop where
 n4 : 4 <= V.length
 n2000 : V.length <= 2000
 k3 : ∀ x, V[3]? = some x -> x.kind = 1 /\ 12 <= x.ws.length
 fr : (namM f).2 = true /\ (namM f).1 <= V.length
 check : ∀ x ∈ V, checkM x = true
 named : ∀ x ∈ V, ∀ k ∈ refsM x, k <= V.length
 coded : ∀ x ∈ V, codedM jm V x = true
end
inductive Reach (V : List Ob) (R : List Int) : Nat -> Prop
 | root (o : Int) (h : o ∈ R) (hn : (namM o).2 = true) (hl : (namM o).1 <= V.length) : Reach V R (namM o).1.toNat
 | step (a : Nat) (x : Ob) (k : Int) (h : Reach V R a) (hx : V[a - 1]? = some x) (hk : k ∈ refsM x) (hl : k <= V.length) : Reach V R k.toNat
structure Near (V : List Ob) (R : List Int) (all : List Nat) : Prop where
 rise : all.Pairwise (· < ·)
 mem : ∀ i, i ∈ all ↔ Reach V R i
theorem namM_ok {o : Int} (h : (namM o).2 = true) : (namM o).1 = o / 2 /\ o % 2 = 0 /\ 0 < o /\ o < 2147483648:=by
 unfold namM at h ⊢;split at h
 ·cases h
 ·rename_i h'
  rw [if_neg h'];refine ⟨rfl, ?_, ?_, ?_⟩ <;> omega
theorem namM_two {i : Nat} (h : 1 <= i) (h2 : i < 1073741824) : namM (2 * i) = ((i : Int), true):=by
 unfold namM;rw [if_neg (by omega)]
 congr 1;omega
theorem refsM_pos (x : Ob) : ∀ k ∈ refsM x, 1 <= k /\ k < 1073741824:=by
 intro k hk;obtain ⟨v, _, hv⟩:=List.mem_filterMap.1 hk;split at hv
 ·rename_i h
  injection hv with hv;obtain ⟨h1, h2, h3, h4⟩:=namM_ok h;omega
 ·cases hv
theorem refsM_mem {x : Ob} {v : Int} (hv : v ∈ x.cls :: x.ws) (h : (namM v).2 = true) : (namM v).1 ∈ refsM x:=by refine List.mem_filterMap.2 ⟨v, hv, ?_⟩;rw [if_pos h]
theorem refsM_inv {x : Ob} {k : Int} (hk : k ∈ refsM x) : ∃ v ∈ x.cls :: x.ws, (namM v).2 = true /\ k = (namM v).1:=by
 obtain ⟨v, hv, h⟩:=List.mem_filterMap.1 hk;split at h
 ·rename_i h'
  injection h with h;exact ⟨v, hv, h', h.symm⟩
 ·cases h
theorem Reach.bd {V : List Ob} {R : List Int} {i : Nat} (h : Reach V R i) : 1 <= i /\ i <= V.length:=by
 cases h with
 | root o h hn hl => obtain ⟨h1, h2, h3, h4⟩:=namM_ok hn; omega
 | step a x k h hx hk hl => have:=refsM_pos x k hk; omega
def idxA (all : List Nat) (o : Int) : Option Nat:=all.findIdx? fun (i : Nat) => decide ((2 * i : Int) = o)
def renF (all : List Nat) (o : Int) : Int:=match idxA all o with
 | some j => 2 * (j + 1 : Nat)
 | none => 2
def renM (all : List Nat) (o : Int) : Int:=if (numM o).2 then o else renF all o
def renO (all : List Nat) (x : Ob) : Ob:=⟨renM all x.cls, x.kind, x.ws.map (renM all), x.bs⟩
def dfltO : Ob:=⟨0, 0, [], []⟩
def snapV (all : List Nat) (V : List Ob) : List Ob:=all.map fun i => renO all (V.getD (i - 1) dflt0)
where dflt0 : Ob:=dfltO
theorem idxA_at {all : List Nat} (hr : all.Pairwise (· < ·)) {j i : Nat} (h : all[j]? = some i) : idxA all (2 * i) = some j:=by unfold idxA;rw [List.findIdx?_eq_some_iff_getElem];obtain ⟨hj, he⟩:=List.getElem?_eq_some_iff.1 h;refine ⟨hj, by rw [he]; simp, ?_⟩;intro k hk;have:=List.pairwise_iff_getElem.1 hr k j (by omega) hj hk;simp;omega
theorem idxA_get {all : List Nat} {o : Int} {j : Nat} (h : idxA all o = some j) : ∃ i, all[j]? = some i /\ (2 * i : Int) = o:=by unfold idxA at h;rw [List.findIdx?_eq_some_iff_getElem] at h;obtain ⟨hj, h1, _⟩:=h;exact ⟨all[j], getElem?_eq_getElem hj, by simpa using h1⟩
theorem numM_even {o : Int} (h : o % 2 = 0) : (numM o).2 = false:=by unfold numM; rw [if_pos (by omega)]
theorem numM_ok {o : Int} (h : (numM o).2 = true) : o % 2 = 1 /\ (numM o).1 = o / 2:=by
 unfold numM at h ⊢;split at h
 ·cases h
 ·rename_i h'
  rw [if_neg h'];refine ⟨?_, rfl⟩;omega
theorem namM_odd {o : Int} (h : o % 2 = 1) : (namM o).2 = false:=by unfold namM; rw [if_pos (by omega)]
theorem renM_num {all : List Nat} {o : Int} (h : (numM o).2 = true) : renM all o = o:=by unfold renM; rw [if_pos h]
theorem renF_at {all : List Nat} (hr : all.Pairwise (· < ·)) {j i : Nat} (h : all[j]? = some i) : renF all (2 * i) = 2 * (j + 1 : Nat):=by unfold renF; rw [idxA_at hr h]
theorem renM_at {all : List Nat} (hr : all.Pairwise (· < ·)) {j i : Nat} (h : all[j]? = some i) : renM all (2 * i) = 2 * (j + 1 : Nat):=by unfold renM;rw [if_neg (by rw [numM_even (by omega)]; simp)];exact renF_at hr h
theorem renM_named {all : List Nat} (hr : all.Pairwise (· < ·)) {o : Int} (ho : (namM o).2 = true) (hm : (namM o).1.toNat ∈ all) :
  ∃ j, all[j]? = some (namM o).1.toNat /\ renM all o = 2 * (j + 1 : Nat) /\ renF all o = 2 * (j + 1 : Nat):=by
 obtain ⟨j, hj⟩:=List.getElem?_of_mem hm;obtain ⟨h1, h2, h3, h4⟩:=namM_ok ho;have e : o = 2 * ((namM o).1.toNat : Int):=by omega
 have r1:=renM_at hr hj;have r2:=renF_at hr hj;rw [<- e] at r1 r2;exact ⟨j, hj, r1, r2⟩
theorem rise_le (all : List Nat) : ∀ (n : Nat), all.Pairwise (· < ·) -> (∀ i ∈ all, 1 <= i /\ i <= n) -> all.length <= n:=by
 intro n hr hb;have key : ∀ j, ∀ h : j < all.length, j + 1 <= all[j]:=by
  intro j
  induction j with
  | zero => intro h; exact (hb _ (List.getElem_mem h)).1
  | succ j ih => intro h;have:=ih (by omega);have:=List.pairwise_iff_getElem.1 hr j (j + 1) (by omega) h (by omega);omega
 rcases Nat.eq_zero_or_pos all.length with h0 | h0
 ·omega
 ·have:=key (all.length - 1) (by omega);have:=(hb _ (List.getElem_mem (show all.length - 1 < all.length by omega))).2;omega
theorem rise_first (all : List Nat) (hr : all.Pairwise (· < ·)) (hb : ∀ i ∈ all, 1 <= i) (k : Nat) (hk : ∀ i, 1 <= i -> i <= k -> i ∈ all) : ∀ j, j < k -> all[j]? = some (j + 1):=by
 have low : ∀ j, ∀ h : j < all.length, j + 1 <= all[j]:=by
  intro j
  induction j with
  | zero => intro h; exact hb _ (List.getElem_mem h)
  | succ j ih => intro h;have:=ih (by omega);have:=List.pairwise_iff_getElem.1 hr j (j + 1) (by omega) h (by omega);omega
 intro j
 induction j using Nat.strongRecOn with
 | _ j ih =>
  intro hj;obtain ⟨p, hp⟩:=List.getElem?_of_mem (hk (j + 1) (by omega) (by omega));obtain ⟨hp1, hp2⟩:=List.getElem?_eq_some_iff.1 hp;have hl:=low p hp1;rcases Nat.lt_trichotomy p j with h | h | h
  ·have:=ih p h (by omega);rw [hp] at this;injection this with this;omega
  ·rw [<- h, hp, h]
  ·omega
section
variable {jm : List Int -> Bool} {V : List Ob} {f : Int} {R : List Int} {all : List Nat}
theorem Near.bd (h : Near V R all) : ∀ i ∈ all, 1 <= i /\ i <= V.length:=fun i hi => ((h.mem i).1 hi).bd
theorem Near.length (h : Near V R all) : all.length <= V.length:=rise_le all _ h.rise h.bd
theorem snapV_length : (snapV all V).length = all.length:=by simp [snapV]
theorem snapV_get {j i : Nat} (h : all[j]? = some i) : (snapV all V)[j]? = some (renO all (V.getD (i - 1) dfltO)):=by simp [snapV, snapV.dflt0, h]
theorem snapV_mem {y : Ob} (h : y ∈ snapV all V) : ∃ (j i : Nat), all[j]? = some i /\ y = renO all (V.getD (i - 1) dfltO):=by obtain ⟨j, hj⟩:=List.getElem?_of_mem h;have hl:=(List.getElem?_eq_some_iff.1 hj).1;rw [snapV_length] at hl;have h1 : all[j]? = some all[j]:=getElem?_eq_getElem hl;rw [snapV_get h1] at hj;injection hj with hj;exact ⟨j, _, h1, hj.symm⟩
theorem Near.get (h : Near V R all) {j i : Nat} (hj : all[j]? = some i) : ∃ x, V[i - 1]? = some x /\ V.getD (i - 1) dfltO = x /\ x ∈ V:=by
 have hb:=h.bd i (mem_of_getElem? hj);have hl : i - 1 < V.length:=by omega
 refine ⟨V[i - 1], getElem?_eq_getElem hl, ?_, List.getElem_mem hl⟩;rw [getD_eq_getElem?_getD, getElem?_eq_getElem hl];rfl
theorem Near.word (hN : Near V R all) (hv : Valid jm V f) {j i : Nat} (hj : all[j]? = some i) {x : Ob} (hx : V[i - 1]? = some x) {v : Int} (hm : v ∈ x.cls :: x.ws) (hn : (namM v).2 = true) :
  ∃ p, all[p]? = some (namM v).1.toNat /\ renM all v = 2 * (p + 1 : Nat) /\ p < all.length:=by
 have hk:=refsM_mem hm hn;have hle:=hv.named x (mem_of_getElem? hx) _ hk;have hr:=Reach.step i x _ ((hN.mem i).1 (mem_of_getElem? hj)) hx hk hle;obtain ⟨p, h1, h2, _⟩:=renM_named hN.rise hn ((hN.mem _).2 hr);exact ⟨p, h1, h2, (List.getElem?_eq_some_iff.1 h1).1⟩
theorem checkM_parts {x : Ob} (h : checkM x = true) : (namM x.cls).2 = true /\ ((x.kind = 1 /\ x.bs = [] /\ x.ws.length <= 1000 /\ ∀ v ∈ x.ws, refM v = true) \/ (x.kind = 2 /\ x.ws = [] /\ x.bs.length <= 1000)):=by
 unfold checkM at h;simp only [Bool.and_eq_true, Bool.or_eq_true, beq_iff_eq, decide_eq_true_eq, List.all_eq_true] at h;obtain ⟨h1, h2⟩:=h;refine ⟨h1, h2.imp ?_ ?_⟩
 ·rintro ⟨a, b, c, d⟩; exact ⟨a, eq_nil_of_length_eq_zero b, c, d⟩
 ·rintro ⟨a, b, c⟩; exact ⟨a, eq_nil_of_length_eq_zero b, c⟩
theorem checkM_mk {x : Ob} (h1 : (namM x.cls).2 = true) (h2 : (x.kind = 1 /\ x.bs = [] /\ x.ws.length <= 1000 /\ ∀ v ∈ x.ws, refM v = true) \/ (x.kind = 2 /\ x.ws = [] /\ x.bs.length <= 1000)) : checkM x = true:=by
 unfold checkM;simp only [Bool.and_eq_true, Bool.or_eq_true, beq_iff_eq, decide_eq_true_eq, List.all_eq_true];refine ⟨h1, h2.imp ?_ ?_⟩
 ·rintro ⟨a, b, c, d⟩; exact ⟨a, by rw [b]; rfl, c, d⟩
 ·rintro ⟨a, b, c⟩; exact ⟨a, by rw [b]; rfl, c⟩
theorem refM_cases {v : Int} (h : refM v = true) : (numM v).2 = true \/ (namM v).2 = true:=by
 unfold refM at h
 simpa using h
theorem Near.renW (hN : Near V R all) (hv : Valid jm V f) {j i : Nat} (hj : all[j]? = some i) {x : Ob} (hx : V[i - 1]? = some x) {v : Int} (hm : v ∈ x.cls :: x.ws) (hw : refM v = true) :
  ((numM v).2 = true /\ renM all v = v) \/ ((namM v).2 = true /\ ∃ p, all[p]? = some (namM v).1.toNat /\ renM all v = 2 * (p + 1 : Nat) /\ p < all.length):=by
 rcases refM_cases hw with h | h
 ·exact .inl ⟨h, renM_num h⟩
 ·exact .inr ⟨h, hN.word hv hj hx hm h⟩
theorem all_small (hN : Near V R all) (hv : Valid jm V f) : all.length <= 2000:=Nat.le_trans hN.length hv.n2000
theorem Near.check (hN : Near V R all) (hv : Valid jm V f) {j i : Nat} (hj : all[j]? = some i) {x : Ob} (hx : V[i - 1]? = some x) : checkM (renO all x) = true:=by
 have hs:=all_small hN hv;obtain ⟨h1, h2⟩:=checkM_parts (hv.check x (mem_of_getElem? hx));refine checkM_mk ?_ ?_
 ·obtain ⟨p, _, hp, hl⟩:=hN.word hv hj hx (List.mem_cons_self ..) h1;show (namM (renM all x.cls)).2 = true
  rw [hp, namM_two (by omega) (by omega)]
 ·rcases h2 with ⟨a, b, c, d⟩ | ⟨a, b, c⟩
  ·refine .inl ⟨a, b, by simpa [renO] using c, ?_⟩;intro v hvm;obtain ⟨u, hu, rfl⟩:=List.mem_map.1 hvm;rcases hN.renW hv hj hx (List.mem_cons_of_mem _ hu) (d u hu) with ⟨_, e⟩ | ⟨_, p, _, e, hl⟩
   ·rw [e]; exact d u hu
   ·rw [e]; unfold refM; rw [namM_two (by omega) (by omega)]; simp
  ·exact .inr ⟨a, by show x.ws.map _ = []; rw [b]; rfl, c⟩
theorem Near.refs (hN : Near V R all) (hv : Valid jm V f) {j i : Nat} (hj : all[j]? = some i) {x : Ob} (hx : V[i - 1]? = some x) : ∀ k ∈ refsM (renO all x), k <= all.length:=by
 intro k hk;have hs:=all_small hN hv;obtain ⟨v, hvm, hvn, rfl⟩:=refsM_inv hk;have key : ∀ u ∈ x.cls :: x.ws, (namM (renM all u)).2 = true -> refM u = true -> (namM (renM all u)).1 <= all.length:=by
  intro u hu hn hw;rcases hN.renW hv hj hx hu hw with ⟨h, e⟩ | ⟨_, p, _, e, hl⟩
  ·rw [e, namM_odd (numM_ok h).1] at hn; cases hn
  ·rw [e, namM_two (by omega) (by omega)]; simp only; omega
 obtain ⟨h1, h2⟩:=checkM_parts (hv.check x (mem_of_getElem? hx));rcases List.mem_cons.1 hvm with e | hvm
 ·subst e;exact key _ (List.mem_cons_self ..) hvn (by unfold refM; rw [h1]; simp)
 ·obtain ⟨u, hu, rfl⟩:=List.mem_map.1 hvm;refine key u (List.mem_cons_of_mem _ hu) hvn ?_;rcases h2 with ⟨_, _, _, d⟩ | ⟨_, b, _⟩
  ·exact d u hu
  ·rw [b] at hu; cases hu
theorem head_ren (hN : Near V R all) (hv : Valid jm V f) {j i : Nat} (hj : all[j]? = some i) {x : Ob} (hx : V[i - 1]? = some x) {v : Int} (hm : v ∈ x.cls :: x.ws) (hw : refM v = true) : headM (renM all v) = headM v:=by
 rcases hN.renW hv hj hx hm hw with ⟨_, e⟩ | ⟨h, p, _, e, _⟩
 ·rw [e]
 ·have h1 : (numM v).2 = false:=numM_even (namM_ok h).2.1;have h2 : (numM (renM all v)).2 = false:=by rw [e]; exact numM_even (by omega)
  unfold headM;rw [h1, h2]; rfl
theorem meth_ren (hN : Near V R all) (hv : Valid jm V f) {j i : Nat} (hj : all[j]? = some i) {x : Ob} (hx : V[i - 1]? = some x) : methM (renO all x) = (methM x).map (renM all):=by
 obtain ⟨h1, h2⟩:=checkM_parts (hv.check x (mem_of_getElem? hx));rcases h2 with ⟨a, b, c, d⟩ | ⟨a, b, c⟩
 ·by_cases hl : 2 <= x.ws.length
  ·have g0 : (x.ws.map (renM all)).getD 0 0 = renM all (x.ws.getD 0 0):=by rw [getD_eq_getElem?_getD, getD_eq_getElem?_getD, List.getElem?_map, getElem?_eq_getElem (show 0 < x.ws.length by omega)]; rfl
   have g1 : (x.ws.map (renM all)).getD 1 0 = renM all (x.ws.getD 1 0):=by rw [getD_eq_getElem?_getD, getD_eq_getElem?_getD, List.getElem?_map, getElem?_eq_getElem (show 1 < x.ws.length by omega)]; rfl
   have m0 : x.ws.getD 0 0 ∈ x.ws:=by rw [getD_eq_getElem?_getD, getElem?_eq_getElem (show 0 < x.ws.length by omega)]; exact List.getElem_mem _
   have hh:=head_ren hN hv hj hx (List.mem_cons_of_mem _ m0) (d _ m0);unfold methM;show (if x.kind = 1 /\ 2 <= (x.ws.map (renM all)).length /\ headM ((x.ws.map (renM all)).getD 0 0) = true then some ((x.ws.map (renM all)).getD 1 0) else none) = _
   rw [g0, g1, hh, List.length_map];split <;> rfl
  ·unfold methM;rw [if_neg (by simp [renO]; omega), if_neg (by omega)]; rfl
 ·unfold methM;rw [if_neg (by simp [renO]; omega), if_neg (by omega)]; rfl
theorem Near.coded (hN : Near V R all) (hv : Valid jm V f) {j i : Nat} (hj : all[j]? = some i) {x : Ob} (hx : V[i - 1]? = some x) : codedM jm (snapV all V) (renO all x) = true:=by
 have hs:=all_small hN hv;have hc:=hv.coded x (mem_of_getElem? hx);unfold codedM at hc ⊢;rw [meth_ren hN hv hj hx];cases hm : methM x with
 | none => rfl
 | some c =>
  rw [hm] at hc;simp only [Option.map_some] at hc ⊢;unfold methM at hm;split at hm
  ·rename_i hk
   injection hm with hm;have m1 : c ∈ x.ws:=by rw [<- hm, getD_eq_getElem?_getD, getElem?_eq_getElem (show 1 < x.ws.length by omega)]; exact List.getElem_mem _
   obtain ⟨h1, h2⟩:=checkM_parts (hv.check x (mem_of_getElem? hx));rcases h2 with ⟨a, b, _, d⟩ | ⟨a, _, _⟩
   ·rcases hN.renW hv hj hx (List.mem_cons_of_mem _ m1) (d c m1) with ⟨h, e⟩ | ⟨h, p, hp, e, hl⟩
    ·have : getO (snapV all V) (renM all c) = none:=by unfold getO;rw [e, namM_odd (numM_ok h).1]; rfl
     rw [this]
    ·have g1 : getO (snapV all V) (renM all c) = some (renO all (V.getD ((namM c).1.toNat - 1) dfltO)):=by unfold getO;rw [e, namM_two (by omega) (by omega), if_pos rfl];simp only [Int.toNat_natCast, Nat.add_sub_cancel];exact snapV_get hp
     obtain ⟨z, hz, hzd, _⟩:=hN.get hp;have g2 : getO V c = some z:=by unfold getO;rw [if_pos h]; exact hz
     rw [g1, hzd];rw [g2] at hc;exact hc
   ·omega
  ·cases hm
theorem snap_valid (hv : Valid jm V f) (hN : Near V R all) (h4 : ∀ i, 1 <= i -> i <= 4 -> i ∈ all) (hf : (namM f).1.toNat ∈ all) : Valid jm (snapV all V) (renF all f):=by
 have hs:=all_small hN hv;have first:=rise_first all hN.rise (fun i hi => (hN.bd i hi).1) 4 h4
 have hl4 : 4 <= all.length:=by
  have:=(List.getElem?_eq_some_iff.1 (first 3 (by omega))).1
  omega
 obtain ⟨p, hp, _, he⟩:=renM_named hN.rise hv.fr.1 hf;have hpl:=(List.getElem?_eq_some_iff.1 hp).1;refine ⟨by rw [snapV_length]; omega, by rw [snapV_length]; omega, ?_, ?_, ?_, ?_, ?_⟩
 ·intro x hx;rw [snapV_get (first 3 (by omega))] at hx
  injection hx with hx;subst hx;obtain ⟨z, hz, hzd, _⟩:=hN.get (first 3 (by omega))
  have:=hv.k3 z hz;rw [hzd]
  simpa [renO] using this
 ·rw [he, namM_two (by omega) (by omega), snapV_length];exact ⟨rfl, by simp only; omega⟩
 ·intro y hy;obtain ⟨j, i, hj, rfl⟩:=snapV_mem hy;obtain ⟨z, hz, hzd, _⟩:=hN.get hj;rw [hzd];exact hN.check hv hj hz
 ·intro y hy;obtain ⟨j, i, hj, rfl⟩:=snapV_mem hy;obtain ⟨z, hz, hzd, _⟩:=hN.get hj;rw [hzd, snapV_length];exact hN.refs hv hj hz
 ·intro y hy;obtain ⟨j, i, hj, rfl⟩:=snapV_mem hy;obtain ⟨z, hz, hzd, _⟩:=hN.get hj;rw [hzd];exact hN.coded hv hj hz
theorem snap_reach (hv : Valid jm V f) (hN : Near V [2, 4, 6, 8, f] all) (h4 : ∀ i, 1 <= i -> i <= 4 -> i ∈ all) {i : Nat} (h : Reach V [2, 4, 6, 8, f] i) : ∀ j, all[j]? = some i -> Reach (snapV all V) [2, 4, 6, 8, renF all f] (j + 1):=by
 have hs:=all_small hN hv;have first:=rise_first all hN.rise (fun i hi => (hN.bd i hi).1) 4 h4
 have uniq : ∀ {p q : Nat} {i : Nat}, all[p]? = some i -> all[q]? = some i -> p = q:=by
  intro p q i hp hq;obtain ⟨hp1, hp2⟩:=List.getElem?_eq_some_iff.1 hp;obtain ⟨hq1, hq2⟩:=List.getElem?_eq_some_iff.1 hq;rcases Nat.lt_trichotomy p q with h | h | h
  ·have:=List.pairwise_iff_getElem.1 hN.rise p q hp1 hq1 h; omega
  ·exact h
  ·have:=List.pairwise_iff_getElem.1 hN.rise q p hq1 hp1 h; omega
 have mk : ∀ (j : Nat) (o : Int), j < all.length -> o = 2 * (j + 1 : Nat) -> o ∈ [2, 4, 6, 8, renF all f] -> Reach (snapV all V) [2, 4, 6, 8, renF all f] (j + 1):=by
  intro j o hj ho hm;have hn : namM o = (((j + 1 : Nat) : Int), true):=by rw [ho]; exact namM_two (by omega) (by omega)
  have:=Reach.root (V:=snapV all V) (R:=[2, 4, 6, 8, renF all f]) o hm (by rw [hn]) (by rw [hn, snapV_length]; simp only; omega)
  rwa [hn] at this
 induction h with
 | root o ho hn hl =>
  intro j hj;have hjl:=(List.getElem?_eq_some_iff.1 hj).1;obtain ⟨h1, h2, h3, h4'⟩:=namM_ok hn;have sm : ∀ q : Nat, q < 4 -> o = 2 * (q + 1 : Nat) -> j = q:=by
   intro q hq hoq;have:=first q hq
   have e : (namM o).1.toNat = q + 1:=by omega
   rw [e] at hj;exact uniq hj this
  simp only [List.mem_cons, List.not_mem_nil, or_false] at ho;rcases ho with ho | ho | ho | ho | ho
  ·have:=sm 0 (by omega) (by omega); exact mk j 2 hjl (by omega) (by simp)
  ·have:=sm 1 (by omega) (by omega); exact mk j 4 hjl (by omega) (by simp)
  ·have:=sm 2 (by omega) (by omega); exact mk j 6 hjl (by omega) (by simp)
  ·have:=sm 3 (by omega) (by omega); exact mk j 8 hjl (by omega) (by simp)
  ·subst ho;obtain ⟨p, hp, _, he⟩:=renM_named hN.rise hn (mem_of_getElem? hj);obtain rfl:=uniq hj hp;exact mk j _ hjl he (by simp)
 | step a x k ha hx hk hl ih =>
  intro j hj;have hjl:=(List.getElem?_eq_some_iff.1 hj).1;obtain ⟨q, hq⟩:=List.getElem?_of_mem ((hN.mem a).2 ha);have hr:=ih q hq;obtain ⟨z, hz, hzd, _⟩:=hN.get hq;rw [hx] at hz;injection hz with hz;subst hz;have hg:=snapV_get (V:=V) hq;rw [hzd] at hg;obtain ⟨v, hvm, hvn, rfl⟩:=refsM_inv hk;obtain ⟨p, hp, e, hpl⟩:=hN.word hv hq hx hvm hvn;obtain rfl:=uniq hj hp;have hmem : renM all v ∈ (renO all x).cls :: (renO all x).ws:=by
   rcases List.mem_cons.1 hvm with h | h
   ·subst h; exact List.mem_cons_self ..
   ·exact List.mem_cons_of_mem _ (List.mem_map_of_mem h)
  have hn2 : namM (renM all v) = (((j + 1 : Nat) : Int), true):=by rw [e]; exact namM_two (by omega) (by omega)
  have:=refsM_mem hmem (by rw [hn2]);rw [hn2] at this;have h3:=Reach.step (V:=snapV all V) (R:=[2, 4, 6, 8, renF all f]) (q + 1) _ _ hr (by simpa using hg) this (by rw [snapV_length]; simp only; omega)
  simpa using h3
theorem snap_all (hv : Valid jm V f) (hN : Near V R all) (hm : ∀ i, 1 <= i -> i <= V.length -> i ∈ all) : snapV all V = V /\ renF all f = f:=by
 have hs:=all_small hN hv;have first:=rise_first all hN.rise (fun i hi => (hN.bd i hi).1) V.length hm
 have hl : all.length = V.length:=by
  have h1:=hN.length;have h4:=hv.n4;have:=(List.getElem?_eq_some_iff.1 (first (V.length - 1) (by omega))).1
  omega
 have ren : ∀ o, (namM o).2 = true -> (namM o).1 <= V.length -> renM all o = o /\ renF all o = o:=by
  intro o ho hle;obtain ⟨h1, h2, h3, h4⟩:=namM_ok ho;obtain ⟨p, hp, e1, e2⟩:=renM_named hN.rise ho (hm _ (by omega) (by omega));have hpl:=(List.getElem?_eq_some_iff.1 hp).1;have:=first p (by omega)
  rw [hp] at this;injection this with this;rw [e1, e2];omega
 refine ⟨?_, (ren f hv.fr.1 hv.fr.2).2⟩;refine List.ext_getElem? ?_;intro j;by_cases hj : j < V.length
 ·rw [snapV_get (first j hj)]
  have hx : V[j]? = some V[j]:=getElem?_eq_getElem hj;have hd : V.getD (j + 1 - 1) dfltO = V[j]:=by rw [Nat.add_sub_cancel, getD_eq_getElem?_getD, hx]; rfl
  rw [hd, hx]
  congr 1;obtain ⟨x, hxe⟩ : ∃ x, x = V[j]:=⟨_, rfl⟩;have hmem : x ∈ V:=by rw [hxe]; exact List.getElem_mem hj
  rw [<- hxe];obtain ⟨h1, h2⟩:=checkM_parts (hv.check x hmem);have hc:=(ren x.cls h1 (hv.named x hmem _ (refsM_mem (List.mem_cons_self ..) h1))).1;have hw : x.ws.map (renM all) = x.ws:=by
   rcases h2 with ⟨_, _, _, d⟩ | ⟨_, b, _⟩
   ·have : ∀ v ∈ x.ws, renM all v = id v:=by
     intro v hvm;rcases refM_cases (d v hvm) with h | h
     ·exact renM_num h
     ·exact (ren v h (hv.named x hmem _ (refsM_mem (List.mem_cons_of_mem _ hvm) h))).1
    rw [List.map_congr_left this, List.map_id]
   ·rw [b]; rfl
  obtain ⟨c, k, ws, bs⟩:=x;unfold renO;simp only at hc hw ⊢;rw [hc, hw]
 ·rw [List.getElem?_eq_none (by rw [snapV_length]; omega), List.getElem?_eq_none (by omega)]
theorem near_four (hv : Valid jm V f) (hN : Near V ([2, 4, 6, 8, f] ++ R) all) : (∀ i, 1 <= i -> i <= 4 -> i ∈ all) /\ (namM f).1.toNat ∈ all:=by
 have h4:=hv.n4;have mk : ∀ (i : Nat) (o : Int), o = 2 * i -> 1 <= i -> i <= 4 -> o ∈ [2, 4, 6, 8, f] ++ R -> i ∈ all:=by
  intro i o ho h1 h2 hm;have hn : namM o = ((i : Int), true):=by rw [ho]; exact namM_two h1 (by omega)
  have:=Reach.root (V:=V) (R:=[2, 4, 6, 8, f] ++ R) o hm (by rw [hn]) (by rw [hn]; simp only; omega);rw [hn] at this;exact (hN.mem _).2 (by simpa using this)
 refine ⟨?_, ?_⟩
 ·intro i h1 h2;rcases (show i = 1 \/ i = 2 \/ i = 3 \/ i = 4 by omega) with rfl | rfl | rfl | rfl
  ·exact mk 1 2 rfl (by omega) (by omega) (by simp)
  ·exact mk 2 4 rfl (by omega) (by omega) (by simp)
  ·exact mk 3 6 rfl (by omega) (by omega) (by simp)
  ·exact mk 4 8 rfl (by omega) (by omega) (by simp)
 ·exact (hN.mem _).2 (Reach.root f (by simp) hv.fr.1 hv.fr.2)
theorem law_valid (hv : Valid jm V f) (hN : Near V ([2, 4, 6, 8, f] ++ R) all) : Valid jm (snapV all V) (renF all f) /\ all.length <= V.length:=by obtain ⟨h4, hf⟩:=near_four hv hN;exact ⟨snap_valid hv hN h4 hf, hN.length⟩
theorem law_again {all2 : List Nat} (hv : Valid jm V f) (hN : Near V [2, 4, 6, 8, f] all) (hN2 : Near (snapV all V) [2, 4, 6, 8, renF all f] all2) :
  snapV all2 (snapV all V) = snapV all V /\ renF all2 (renF all f) = renF all f:=by
 have hN' : Near V ([2, 4, 6, 8, f] ++ []) all:=by simpa using hN
 obtain ⟨h4, hf⟩:=near_four hv hN';refine snap_all (snap_valid hv hN h4 hf) hN2 ?_;intro i h1 h2;rw [snapV_length] at h2;have hj : all[i - 1]? = some (all[i - 1]'(by omega)):=getElem?_eq_getElem (by omega);have:=snap_reach hv hN h4 ((hN.mem _).1 (mem_of_getElem? hj)) (i - 1) hj;rw [show i - 1 + 1 = i by omega] at this;exact (hN2.mem i).2 this
theorem law_all (hv : Valid jm V f) (hN : Near V ([2, 4, 6, 8, f] ++ R) all) (hR : ∀ i : Nat, 1 <= i -> i <= V.length -> (2 * i : Int) ∈ R) : snapV all V = V /\ renF all f = f:=by refine snap_all hv hN ?_;intro i h1 h2;have h2000:=hv.n2000;have hn : namM (2 * (i : Int)) = ((i : Int), true):=namM_two h1 (by omega);have:=Reach.root (V:=V) (R:=[2, 4, 6, 8, f] ++ R) (2 * (i : Int)) (List.mem_append_right _ (hR i h1 h2)) (by rw [hn]) (by rw [hn]; simp only; omega);rw [hn] at this;exact (hN.mem i).2 (by simpa using this)
end
end Go.Proofs.YtgaemfghpibeeaaGreatDoor
namespace Go.Proofs.YtgaemfghpibeeaaGreatDoor
open Go.RowKit
def RckPost (o : Ob) (w : World) (e : Ending) (w' : World) : Prop:=e = .returned (.int .i64 (errOf (checkM o))) /\ Below w.heap.size w w'
theorem checkM_no1 {o : Ob} (h : (namM o.cls).2 = false) : checkM o = false:=by simp [checkM, h]
theorem checkM_no2 {o : Ob} (h1 : o.kind ≠ 1) (h2 : o.kind ≠ 2) : checkM o = false:=by simp [checkM, h1, h2]
theorem checkM_no3 {o : Ob} (h : 1000 < o.ws.length) : checkM o = false:=by
 cases e : checkM o with
 | false => rfl
 | true =>
  obtain ⟨_, h2 | ⟨_, h3, _⟩⟩:=checkM_parts e
  ·omega
  ·rw [h3] at h; simp at h
theorem checkM_no4 {o : Ob} (h : 1000 < o.bs.length) : checkM o = false:=by
 cases e : checkM o with
 | false => rfl
 | true =>
  obtain ⟨_, ⟨_, h3, _⟩ | h2⟩:=checkM_parts e
  ·rw [h3] at h; simp at h
  ·omega
theorem checkM_no5 {o : Ob} (h1 : o.kind = 1) (h : 0 < o.bs.length) : checkM o = false:=by
 cases e : checkM o with
 | false => rfl
 | true =>
  obtain ⟨_, ⟨_, h3, _⟩ | h2⟩:=checkM_parts e
  ·rw [h3] at h; simp at h
  ·omega
theorem checkM_no6 {o : Ob} (h1 : o.kind = 2) (h : 0 < o.ws.length) : checkM o = false:=by
 cases e : checkM o with
 | false => rfl
 | true =>
  obtain ⟨_, h2 | ⟨_, h3, _⟩⟩:=checkM_parts e
  ·omega
  ·rw [h3] at h; simp at h
theorem checkM_no7 {o : Ob} {x : Int} (hm : x ∈ o.ws) (hx : refM x = false) : checkM o = false:=by
 cases e : checkM o with
 | false => rfl
 | true =>
  obtain ⟨_, ⟨_, _, _, h3⟩ | ⟨_, h3, _⟩⟩:=checkM_parts e
  ·rw [h3 x hm] at hx; cases hx
  ·rw [h3] at hm; cases hm
theorem rcheck_any (o : Ob) (A : Option Addr) (ca : Nat) (B : Option Addr) (cb : Nat) (w : World) (hO : ObR w o A ca B cb) :
  Calls Tryz.prog 21 #[.agg (obV o A ca B cb)] w (RckPost o w):=by
 have hal:=(Below.refl w.heap.size w).alloc (Nat.le_refl _) (.cells (obV o A ca B cb) 29);have hI:=hO.ints.alloc (.cells (obV o A ca B cb) 29);have b0:=Blk.new w 29 (obV o A ca B cb);have hnm:=fun W => rnamed_any o.cls W;have hla:=Nat.le_trans hO.la hO.ca63;have n1:=checkM_no1 (o:=o);have n2:=checkM_no2 (o:=o);have n3:=checkM_no3 (o:=o);have n4:=checkM_no4 (o:=o);have n5:=checkM_no5 (o:=o);have n6:=checkM_no6 (o:=o);have n7:=fun x => checkM_no7 (o:=o) (x:=x);have yes:=checkM_mk (x:=o);obtain ⟨R, hR⟩ : ∃ R, R = checkM o:=⟨_, rfl⟩;unfold RckPost;rw [<- hR] at n1 n2 n3 n4 n5 n6 n7 yes ⊢;obtain ⟨cls, kind, ws, bs⟩:=o;unfold obV at *;simp only at *;obtain ⟨nm, hnmE⟩ : ∃ nm, nm = namM cls:=⟨_, rfl⟩;rw [<- hnmE] at hnm n1 yes;obtain ⟨id, ok⟩:=nm;obtain ⟨p, hp⟩ : ∃ p, p = ws.length:=⟨_, rfl⟩;obtain ⟨q, hq⟩ : ∃ q, q = bs.length:=⟨_, rfl⟩;rw [<- hp, <- hq] at hal hI b0 ⊢;rw [<- hp] at n3 n6 yes hla;rw [<- hq] at n4 n5 yes;have c0:=b0.cell 0;have c1:=b0.cell 1;have c2:=b0.cell 2;have c3:=b0.cell 3;simp only [qTa, qTb, qTc] at c0 c1 c2 c3;have HNM:=hid hnm;have HI:=hid hI;have HAL:=hid hal;have B0:=hid b0;have HP:=hid hp;have HQ:=hid hq;have N7:=hid n7;have YES:=hid yes;clear hnm hI hal b0 hO hR hnmE hp hq n7 yes;have fin : R = false -> (Ending.returned (.int .i64 2) = .returned (.int .i64 (errOf R)) /\ True):=fun h => by rw [h]; exact ⟨rfl, trivial⟩
 have FIN:=hid fin;clear fin;go_enter Tryz.func21, Tryz.ntmps21;go_wp2_with fail;refine (HNM.out _).mono ?_;rintro e w2 ⟨rfl, rfl⟩;cases ok with
 | false => have hr:=n1 rfl;have HR:=hid hr;clear hr n1 n2 n3 n4 n5 n6;go_wp2_with fail;go_ret;exact ⟨(FIN.out HR.out).1, HAL.out⟩
 | true =>
  clear n1;by_cases k1 : kind = 1
  ·subst k1;clear n2 n6;by_cases h3 : 1000 < p
   ·have HR:=hid (n3 h3);clear n3 n4 n5;go_wp2_with fail;go_ret;exact ⟨(FIN.out HR.out).1, HAL.out⟩
   ·have h3' : ¬ (1000 : Int) < (p : Int):=by omega
    clear n3;by_cases h4 : 1000 < q
    ·have HR:=hid (n4 h4);clear n4 n5;go_wp2_with fail;go_ret;exact ⟨(FIN.out HR.out).1, HAL.out⟩
    ·have h4' : ¬ (1000 : Int) < (q : Int):=by omega
     clear n4;by_cases h5 : 0 < q
     ·have HR:=hid (n5 rfl h5);clear n5;go_wp2_with fail;go_ret;exact ⟨(FIN.out HR.out).1, HAL.out⟩
     ·obtain rfl : q = 0:=by omega
      clear n5 h4 h4' h5;go_wp2_with fail;go_loopg [5] p (fun gk s5 wr => ∃ j : Nat, j + gk = p /\ s5 = .int .i64 j /\ w.alloc (.cells #[.int .i64 cls, .int .i64 1, .slice A p ca, .slice B 0 cb] 29) = wr /\ Aside (∀ i, i < j -> ∀ x, ws[i]? = some x -> refM x = true))
      case atStart => exact ⟨0, by omega, rfl, rfl, fun i hi => absurd hi (by omega)⟩
      case round =>
       obtain ⟨j, hj, rfl, rfl, hall⟩:=hrel;cases gk with
       | zero =>
        have hjn : ¬ ((j : Int) < p):=by omega
        have hr : R = true:=YES.out (by trivial) (.inl ⟨by trivial, eq_nil_of_length_eq_zero HQ.out.symm, by omega, fun x hx => by obtain ⟨i, hi⟩:=List.getElem?_of_mem hx;exact hall.out i (by have:=(List.getElem?_eq_some_iff.1 hi).1; have:=HP.out; omega) x hi⟩)
        have HR:=hid hr;clear hr hall;go_wp2_with fail;go_ret;exact ⟨by rw [HR.out]; rfl, HAL.out⟩
       | succ g =>
        have hjn : (j : Int) < p:=by omega
        obtain ⟨x, hx⟩ : ∃ x, ws[j]? = some x:=⟨_, getElem?_eq_getElem (by have:=HP.out; omega)⟩;obtain ⟨_, b, off, rfl, _, q0⟩:=HI.out j x hx;have hrf:=fun W => rref_any x W;obtain ⟨r, hr⟩ : ∃ r, r = refM x:=⟨_, rfl⟩;rw [<- hr] at hrf;have HRF:=hid hrf;have HX:=hid hx;have HR:=hid hr;clear hrf hx hr;cases r with
        | true =>
         have nx : Aside (∀ i, i < j + 1 -> ∀ x, ws[i]? = some x -> refM x = true):=by
          intro i hi y hy;rcases Nat.lt_or_ge i j with h1 | h1
          ·exact hall.out i h1 y hy
          ·have : i = j:=by omega
           subst this;rw [HX.out] at hy;cases hy
           exact HR.out.symm
         clear hall;go_wp2_with fail;refine (HRF.out _).mono ?_;rintro e w3 ⟨rfl, rfl⟩;go_wp2_with fail;go_roundg g
         case measure => omega
         case rel => exact ⟨j + 1, by omega, by go_num, rfl, nx⟩
        | false => have hr2:=N7.out x (mem_of_getElem? HX.out) HR.out.symm;have HR2:=hid hr2;clear hr2 hall;go_wp2_with fail;refine (HRF.out _).mono ?_;rintro e w3 ⟨rfl, rfl⟩;go_wp2_with fail;go_ret;exact ⟨(FIN.out HR2.out).1, HAL.out⟩
  ·have hk1 : (kind == 1) = false:=by simpa using k1
   have hk1' : (kind != 1) = true:=by simpa using k1
   clear n5;by_cases k2 : kind = 2
   ·subst k2;clear n2;by_cases h3 : 1000 < p
    ·have HR:=hid (n3 h3);clear n3 n4 n6;go_wp2_with fail;go_ret;exact ⟨(FIN.out HR.out).1, HAL.out⟩
    ·have h3' : ¬ (1000 : Int) < (p : Int):=by omega
     clear n3;by_cases h4 : 1000 < q
     ·have HR:=hid (n4 h4);clear n4 n6;go_wp2_with fail;go_ret;exact ⟨(FIN.out HR.out).1, HAL.out⟩
     ·have h4' : ¬ (1000 : Int) < (q : Int):=by omega
      clear n4;by_cases h5 : 0 < p
      ·have HR:=hid (n6 rfl h5);clear n6;go_wp2_with fail;go_ret;exact ⟨(FIN.out HR.out).1, HAL.out⟩
      ·obtain rfl : p = 0:=by omega
       have hr : R = true:=YES.out rfl (.inr ⟨rfl, eq_nil_of_length_eq_zero HP.out.symm, by have:=HQ.out; omega⟩);have HR:=hid hr;clear n6 h3 h3' h5 hr;go_wp2_with fail;go_loopg [5] 0 (fun gk s5 wr => gk = 0 /\ s5 = .int .i64 0 /\ w.alloc (.cells #[.int .i64 cls, .int .i64 2, .slice A 0 ca, .slice B q cb] 29) = wr)
       case atStart => exact ⟨rfl, rfl, rfl⟩
       case round => obtain ⟨rfl, rfl, rfl⟩:=hrel;go_wp2_with fail;go_ret;exact ⟨by rw [HR.out]; rfl, HAL.out⟩
   ·have hk2 : (kind == 2) = false:=by simpa using k2
    have hk2' : (kind != 2) = true:=by simpa using k2
    have HR:=hid (n2 k1 k2);clear n2 n3 n4 n6;go_wp2_with fail;go_ret;exact ⟨(FIN.out HR.out).1, HAL.out⟩
def putM (o : Int) : List Int:=[o / 16777216 % 256, o / 65536 % 256, o / 256 % 256, o % 256]
theorem putM_vals (o : Int) : ∀ v ∈ putM o, 0 <= v /\ v <= 255:=by intro v hv; simp [putM] at hv; omega
def putC (o : Int) (j : Nat) : Array Value :=
 #[.int .u8 (if 0 < j then o / 16777216 % 256 else 0), .int .u8 (if 1 < j then o / 65536 % 256 else 0), .int .u8 (if 2 < j then o / 256 % 256 else 0), .int .u8 (if 3 < j then o % 256 else 0)]
def FreshB (bs : List Int) (w : World) (e : Ending) (w' : World) : Prop :=
 ∃ g, e = .returned (.slice (some ⟨g, 0, none⟩) bs.length bs.length) /\ w.heap.size <= g /\ Blk w' g 5 (byteCells bs) /\ Below w.heap.size w w'
theorem made_one (v : Value) (n : Nat) : madeCells #[v] (n * 1) = (List.replicate n v).toArray:=by
 apply Array.ext
 ·simp [madeCells]
 ·intro i h1 h2;simp [madeCells, Nat.mod_one]
theorem make_bytes (n : Nat) (hn : n <= 8388608) (W : World) : (Instr.makeSlice 27 (.int .i64 (n : Int)) (.int .i64 (n : Int))).run Tryz.prog W = .ok (.slice (some ⟨W.heap.size, 0, none⟩) n n) (W.alloc (.cells (byteCells (List.replicate n 0)) 5)):=by
 obtain ⟨i0, hi, hz0, hz1, hz2⟩:=info_parts Tryz.info5;have h:=run_make (P:=Tryz.prog) W 27 5 i0 (.int .u8 0) Tryz.underlying27 hi hz0 .i64 .i64 n n (by omega) (by omega) (by rw [hz2]; omega) (by omega);rw [h, hz1];simp only [Int.toNat_natCast];have e : madeCells (Value.int .u8 0).cells (n * 1) = byteCells (List.replicate n 0):=by
  show madeCells #[Value.int .u8 0] (n * 1) = _
  rw [made_one, byteCells, List.map_replicate]
 rw [e]
theorem put_any (o : Int) (w : World) :
  Calls Tryz.prog 100 #[.int .i64 o] w (FreshB (putM o) w):=by
 have hmk : (Instr.makeSlice 27 (.int .i64 4) (.int .i64 4)).run Tryz.prog w = .ok (.slice (some ⟨w.heap.size, 0, none⟩) 4 4) (w.alloc (.cells (putC o 0) 5)):=make_bytes 4 (by omega) w;have b0:=Blk.new w 5 (putC o 0);have hb0:=(Below.refl w.heap.size w).alloc (Nat.le_refl _) (.cells (putC o 0) 5);go_enter Tryz.func100, Tryz.ntmps100;go_wp2;clear hmk;go_loopg [4, 6] 4 (fun g s4 s6 wr => ∃ j : Nat, j + g = 4 /\ s6 = .int .i64 j /\ Blk wr w.heap.size 5 (putC o j) /\ Below w.heap.size w wr)
 case atStart => exact ⟨0, rfl, rfl, b0, hb0⟩
 case round =>
  clear b0 hb0;obtain ⟨j, hj, rfl, b1, hb1⟩:=hrel;have hlt:=b1.lt;have f1:=b1.frozen;cases gk with
  | zero =>
   obtain rfl : j = 4:=by omega
   go_wp2;go_ret;exact ⟨w.heap.size, rfl, Nat.le_refl _, b1, hb1⟩
  | succ g =>
   have c0:=b1.cell 0;have c1:=b1.cell 1;have c2:=b1.cell 2;have c3:=b1.cell 3;rcases (show j = 0 \/ j = 1 \/ j = 2 \/ j = 3 by omega) with rfl | rfl | rfl | rfl
   ·have b2 : Blk (wr.setCell ⟨w.heap.size, 0, none⟩ (.int .u8 (o / 16777216 % 256))) w.heap.size 5 (putC o 1):=by simpa [putC] using b1.set_ 0 (.int .u8 (o / 16777216 % 256))
    simp [putC] at c0 c1 c2 c3;go_wp2;go_roundg g
    case measure => omega
    case rel => exact ⟨1, by omega, by go_num, b2, hb1.setCell (Nat.le_refl _) _⟩
   ·have b2 : Blk (wr.setCell ⟨w.heap.size, 1, none⟩ (.int .u8 (o / 65536 % 256))) w.heap.size 5 (putC o 2):=by simpa [putC] using b1.set_ 1 (.int .u8 (o / 65536 % 256))
    simp [putC] at c0 c1 c2 c3;go_wp2;go_roundg g
    case measure => omega
    case rel => exact ⟨2, by omega, by go_num, b2, hb1.setCell (Nat.le_refl _) _⟩
   ·have b2 : Blk (wr.setCell ⟨w.heap.size, 2, none⟩ (.int .u8 (o / 256 % 256))) w.heap.size 5 (putC o 3):=by simpa [putC] using b1.set_ 2 (.int .u8 (o / 256 % 256))
    simp [putC] at c0 c1 c2 c3;go_wp2;go_roundg g
    case measure => omega
    case rel => exact ⟨3, by omega, by go_num, b2, hb1.setCell (Nat.le_refl _) _⟩
   ·have b2 : Blk (wr.setCell ⟨w.heap.size, 3, none⟩ (.int .u8 (o % 256))) w.heap.size 5 (putC o 4):=by simpa [putC] using b1.set_ 3 (.int .u8 (o % 256))
    simp [putC] at c0 c1 c2 c3;go_wp2;go_roundg g
    case measure => omega
    case rel => exact ⟨4, by omega, by go_num, b2, hb1.setCell (Nat.le_refl _) _⟩
def RetB (bs : List Int) (w : World) (e : Ending) (w' : World) : Prop:=∃ v, e = .returned v /\ OwnsB w' w.heap.size v bs /\ Below w.heap.size w w'
def allW (xs : List Int) : List Int:=xs.flatMap putM
theorem allW_snoc (xs : List Int) (x : Int) : allW (xs ++ [x]) = allW xs ++ putM x:=by simp [allW]
theorem allW_length (xs : List Int) : (allW xs).length = 4 * xs.length:=by
 induction xs with
 | nil => rfl
 | cons x xs ih => simp only [allW, List.flatMap_cons, length_append, List.length_cons] at *; rw [ih]; simp [putM]; omega
theorem allW_vals (xs : List Int) : ∀ v ∈ allW xs, 0 <= v /\ v <= 255:=by intro v hv;obtain ⟨x, _, h⟩:=List.mem_flatMap.1 hv;exact putM_vals x v h
theorem take_snoc {α : Type} (l : List α) (j : Nat) (x : α) (h : l[j]? = some x) : l.take (j + 1) = l.take j ++ [x]:=by have hj:=(List.getElem?_eq_some_iff.1 h).1;rw [List.take_succ_eq_append_getElem hj];rw [getElem?_eq_getElem hj] at h;injection h with h;rw [h]
theorem wall_any (w : World) (A : Option Addr) (xs : List Int) (cap : Nat) (hA : Ints w A xs) (hbig : xs.length <= 1048576) :
  Calls Tryz.prog 67 #[.slice A xs.length cap] w (RetB (allW xs) w):=by
 obtain ⟨n, hn⟩ : ∃ n, n = xs.length:=⟨_, rfl⟩;have HN:=hid hn;have HA:=hid hA;rw [<- hn] at hbig ⊢;clear hn hA;go_enter Tryz.func67, Tryz.ntmps67;go_wp2;go_loopg [3, 8] n (fun g s3 s8 wr => ∃ j : Nat, j + g = n /\ s8 = .int .i64 j /\ OwnsB wr w.heap.size s3 (allW (xs.take j)) /\ Below w.heap.size w wr)
 case atStart => exact ⟨0, by omega, rfl, World.ownsRow_nil _ _ _ _, Below.refl _ _⟩
 case round =>
  obtain ⟨j, hj, rfl, hown, hb⟩:=hrel;have hsz:=hb.size;cases gk with
  | zero =>
   have hjn : ¬ ((j : Int) < n):=by omega
   have e : xs.take j = xs:=take_of_length_le (by have:=HN.out; omega);rw [e] at hown;go_wp2;go_ret;exact ⟨_, rfl, hown, hb⟩
  | succ g =>
   have hjn : (j : Int) < n:=by omega
   obtain ⟨x, hx⟩ : ∃ x, xs[j]? = some x:=⟨_, getElem?_eq_getElem (by have:=HN.out; omega)⟩;obtain ⟨_, b, off, rfl, _, hc⟩:=(HA.out.below hb) j x hx;have hlen:=allW_length (xs.take j);have hl2 : (xs.take j).length <= j:=List.length_take_le _ _;have hl3 : (allW (xs.take j)).length <= 4 * j:=by omega
   have hs:=take_snoc xs j x hx;have HS:=hid hs;clear hs hx hlen hl2;go_wp2_with fail;refine (put_any _ _).mono ?_;rintro e w2 ⟨gb, rfl, hgb, bb, hb2⟩;have hown2:=OwnsB.keep hown hb2;have hb3:=hb.trans (hb2.mono hsz);have hB2:=hid (Byts.of_blk bb (putM_vals x));have hsz3:=hb3.size;clear hb2 hown bb;go_wp2_with (at_builtin; refine append_bytes rfl _ _ rfl w.heap.size _ (allW (xs.take j)) rfl hown2 (some ⟨gb, 0, none⟩) (putM x) _ _ rfl rfl hB2.out (fun h => by cases h) ?c1 hsz3 ?_)
   case c1 => have : (putM x).length = 4:=rfl;omega
   intro v3 w3 hown3 hg3;have hb4:=hb3.grown hg3 hsz3 (fun k hk => (hown2.lt k hk).1);have hown4 : OwnsB w3 w.heap.size v3 (allW (xs.take (j + 1))):=by rw [HS.out, allW_snoc]; exact hown3
   clear hown3 hg3 hown2 hb3 hB2;go_wp2;go_roundg g
   case measure => omega
   case rel => exact ⟨j + 1, by omega, by go_num, hown4, hb4⟩
theorem OwnsB.of_blk {w : World} {g B cap : Nat} {bs : List Int} {cur : Array Value} (h : Blk w g 5 cur) (hB : B <= g) (hle : bs.length <= cap) (hcap : cap <= 9223372036854775807) (hs : cur.size = cap) (ht : cur.toList.take bs.length = bs.map (Value.int .u8)) :
  OwnsB w B (.slice (some ⟨g, 0, none⟩) bs.length cap) bs :=
 ⟨by simp, .inr ⟨g, cap, cur, rfl, hB, h, hle, hcap, by omega, by simpa using ht⟩⟩
theorem OwnsI.of_blk {w : World} {g B cap : Nat} {xs : List Int} {cur : Array Value} (h : Blk w g 3 cur) (hB : B <= g) (hle : xs.length <= cap) (hcap : cap <= 9223372036854775807) (hs : cur.size = cap) (ht : cur.toList.take xs.length = xs.map (Value.int .i64)) :
  OwnsI w B (.slice (some ⟨g, 0, none⟩) xs.length cap) xs :=
 ⟨by simp, .inr ⟨g, cap, cur, rfl, hB, h, hle, hcap, by omega, by simpa using ht⟩⟩
theorem OwnsB.mono {w : World} {B B' : Nat} {v : Value} {l : List Int} (h : OwnsB w B v l) (hB : B' <= B) : OwnsB w B' v l :=
 ⟨h.1, h.2.imp id (fun ⟨g, cap, cur, h1, h2, h3⟩ => ⟨g, cap, cur, h1, Nat.le_trans hB h2, h3⟩)⟩
theorem OwnsI.mono {w : World} {B B' : Nat} {v : Value} {l : List Int} (h : OwnsI w B v l) (hB : B' <= B) : OwnsI w B' v l :=
 ⟨h.1, h.2.imp id (fun ⟨g, cap, cur, h1, h2, h3⟩ => ⟨g, cap, cur, h1, Nat.le_trans hB h2, h3⟩)⟩
theorem OwnsI.off {w w' : World} {B : Nat} {v : Value} {l : List Int} (h : OwnsI w B v l) (hg : ∀ g, B <= g -> w'.heap[g]? = w.heap[g]?) : OwnsI w' B v l :=
 ⟨h.1, h.2.imp id (fun ⟨g, cap, cur, h1, h2, h3, h4⟩ => ⟨g, cap, cur, h1, h2, (hg g h2).trans h3, h4⟩)⟩
theorem OwnsI.setCell {w : World} {B : Nat} {v : Value} {l : List Int} (h : OwnsI w B v l) {p : Addr} (hp : p.block < B) (u : Value) : OwnsI (w.setCell p u) B v l :=
 h.off (fun g hg => Below.heap_setCell w p u g (by omega))
theorem OwnsB.off {w w' : World} {B : Nat} {v : Value} {l : List Int} (h : OwnsB w B v l) (hg : ∀ g, B <= g -> w'.heap[g]? = w.heap[g]?) : OwnsB w' B v l :=
 ⟨h.1, h.2.imp id (fun ⟨g, cap, cur, h1, h2, h3, h4⟩ => ⟨g, cap, cur, h1, h2, (hg g h2).trans h3, h4⟩)⟩
theorem OwnsB.setCell {w : World} {B : Nat} {v : Value} {l : List Int} (h : OwnsB w B v l) {p : Addr} (hp : p.block < B) (u : Value) : OwnsB (w.setCell p u) B v l :=
 h.off (fun g hg => Below.heap_setCell w p u g (by omega))
theorem res_cell_tmp {P : Program} {fn : Func} {p q : Tmp} {ty : TypeId} (h : fn.results = #[.cell p ty, .tmp q]) (tmps : Array Value) (w : World) (g : Nat) (t : TypeId) (cs : Array Value) (fr : Nat × Nat) (d : TypeDesc)
  (hp : tmps.getD p undef = .pointer (some ⟨g, 0, none⟩)) (hg : w.heap[g]? = some (.cells cs t fr))
  (hu : P.underlying ty = some d) (hd : (match d with | .struct _ | .array _ _ => true | _ => false) = true) (hi : (P.info? ty).map (·.size) = some cs.size) :
  (results fn tmps).run P w = .ok (.tuple #[.agg cs, tmps.getD q undef]) w:=by
 have hp' : tmps[p]?.getD undef = .pointer (some ⟨g, 0, none⟩):=by simpa using hp
 simp [results, h, hp', asAddr, run_loadVar_row w g t ty cs fr d hg hu hd hi]
theorem OwnsB.reads2 {w : World} {B : Nat} {v : Value} {l : List Int} (h : OwnsB w B v l) (hv : ∀ x ∈ l, 0 <= x /\ x <= 255) : ∃ A cap, v = .slice A l.length cap /\ l.length <= cap /\ cap <= 9223372036854775807 /\ Byts w A l /\ (A = none -> cap = 0):=by
 obtain ⟨A, cap, e, h1, h2, h3⟩:=h.reads hv;refine ⟨A, cap, e, h1, h2, h3, ?_⟩;intro hA;subst hA;rcases h.2 with ⟨e2, h0⟩ | ⟨g, cap', cur, e2, _⟩
 ·rw [e] at e2; injection e2
 ·rw [e] at e2; injection e2 with e3; cases e3
theorem bytes_eql_nil (W : World) (a : Option Addr) (n c : Nat) : (binOp .eql 27 (.slice a n c) (.slice none 0 0)).run Tryz.prog W = .ok (.bool a.isNone) W:=by
 have h : ∀ d : Nat, (Op.equalIn (d + 1) 27 (.slice a n c) (.slice none 0 0)).run Tryz.prog W = .ok a.isNone W:=fun d => by cases a <;> simp [Op.equalIn, run_underlying Tryz.underlying27]
 simp only [binOp];simp [Op.equal, Op.maxDepth, h 9999]
theorem cloneb_any (w : World) (A : Option Addr) (bs : List Int) (cap : Nat) (hB : Byts w A bs) (hbig : bs.length <= 4194304) (hnone : A = none -> cap = 0) :
  Calls Tryz.prog 97 #[.slice A bs.length cap] w (RetB bs w):=by
 have hnil:=bytes_eql_nil;cases A with
 | none =>
  have hb : bs = []:=by
   cases bs with
   | nil => rfl
   | cons x l => obtain ⟨_, _, b, off, hA, _⟩:=hB 0 x rfl; cases hA
  subst hb;clear hbig hnone hB;go_enter Tryz.func97, Tryz.ntmps97;go_wp2;go_ret;exact ⟨_, rfl, World.ownsRow_nil _ _ _ _, Below.refl _ _⟩
 | some a =>
  have b0:=Blk.new w 5 #[];have ho : OwnsB (w.alloc (.cells #[] 5)) w.heap.size (.slice (some ⟨w.heap.size, 0, none⟩) 0 0) []:=OwnsB.of_blk (bs:=[]) b0 (Nat.le_refl _) (by simp) (by omega) rfl rfl;have hB1:=hB.alloc (.cells #[] 5);have hb0:=(Below.refl w.heap.size w).alloc (Nat.le_refl _) (.cells #[] 5);have HB:=hid hB1;clear hB hB1 b0 hnone;go_enter Tryz.func97, Tryz.ntmps97;go_wp2_with (at_builtin; refine append_bytes rfl _ _ rfl w.heap.size _ [] rfl ho (some a) bs _ _ rfl rfl HB.out (fun h => by cases h) ?c1 (by simp) ?_)
  case c1 => have : ([] : List Int).length = 0:=rfl;omega
  intro v3 w3 hown3 hg3;have hb4:=hb0.grown hg3 (by simp) (fun k hk => (ho.lt k hk).1);have hown3 : OwnsB w3 w.heap.size v3 bs:=hown3;clear hg3 ho hb0;go_wp2;go_ret;exact ⟨_, rfl, hown3, hb4⟩
theorem grow_any (n : Nat) (w : World) (hn : n <= 8388608) :
  Calls Tryz.prog 99 #[.slice none 0 0, .int .i64 n] w (RetB [] w):=by
 by_cases h0 : n = 0
 ·subst h0;go_enter Tryz.func99, Tryz.ntmps99;go_wp2;go_ret;exact ⟨_, rfl, World.ownsRow_nil _ _ _ _, Below.refl _ _⟩
 ·obtain ⟨i0, hi, hz0, hz1, hz2⟩:=info_parts Tryz.info5;have hr:=Lib.run_append_nil_zeros (P:=Tryz.prog) w 27 3 27 5 i0 (.int .u8 0) .i64 .i64 Tryz.underlying27 Tryz.underlying3 hi hz0 n (by omega) (by rw [hz1]; decide) (by omega) (by rw [hz2]; omega);have hpos : (0 : Int) < n:=by omega
  have HR:=hid hr;clear hr hi hz0 hz1 hz2 h0;go_enter Tryz.func99, Tryz.ntmps99;go_wp2_with (at_builtin; refine Lib.wpList_append_run _ rfl _ _ _ _ rfl _ _ rfl rfl _ _ HR.out ?_)
  go_ret;have hge:=grownCap_ge w n 0 5;have hle:=grownCap_le_maxLen w n 0 5 (by unfold maxLen; omega);unfold maxLen at hle;have hb:=(Below.refl w.heap.size w).alloc (Nat.le_refl _) (.cells (Builtin.zeroCells #[Value.int .u8 0] n ++ Builtin.zeroCells #[Value.int .u8 0] (grownCap w n 0 5 - n)) 5);refine ⟨_, rfl, OwnsB.of_blk (bs:=[]) (g:=w.heap.size) (cur:=Builtin.zeroCells #[Value.int .u8 0] n ++ Builtin.zeroCells #[Value.int .u8 0] (grownCap w n 0 5 - n)) ((Blk.new w 5 _).drew) (Nat.le_refl _) (by simp) hle ?_ (by simp), ⟨hb.os, hb.tape, hb.output, hb.size, hb.block⟩⟩;rw [Array.size_append, size_zeroCells, size_zeroCells];simp;omega
structure Row3 where
 A : Option Addr
 bs : List Int
 cap : Nat
def Rows3 (w : World) (g : Nat) (l : List Row3) : Prop :=
 g < w.heap.size /\ ∀ j r, l[j]? = some r -> w.cell? ⟨g, j, none⟩ = some (.slice r.A r.bs.length r.cap) /\ Byts w r.A r.bs /\ (r.A = none -> r.cap = 0) /\ r.bs.length <= 9223372036854775807
theorem Rows3.below {w w' : World} {g : Nat} {l : List Row3} (h : Rows3 w g l) (hb : Below w.heap.size w w') : Rows3 w' g l:=by refine ⟨Nat.lt_of_lt_of_le h.1 hb.size, fun j r hj => ?_⟩;obtain ⟨h1, h2, h3, h4⟩:=h.2 j r hj;exact ⟨(hb.cell (p:=⟨g, j, none⟩) h.1).trans h1, h2.below hb, h3, h4⟩
def joined (l : List Row3) : List Int:=l.flatMap (·.bs)
theorem joined_snoc (l : List Row3) (r : Row3) : joined (l ++ [r]) = joined l ++ r.bs:=by simp [joined]
theorem joined_take_le (l : List Row3) (j : Nat) : (joined (l.take j)).length <= (joined l).length:=by
 have h : (joined l).length = (joined (l.take j ++ l.drop j)).length:=by rw [List.take_append_drop]
 have e : joined (l.take j ++ l.drop j) = joined (l.take j) ++ joined (l.drop j):=List.flatMap_append;rw [e, length_append] at h;omega
theorem concat_any (w : World) (g cap : Nat) (l : List Row3) (hR : Rows3 w g l) (hl : l.length <= 1000) (hbig : (joined l).length <= 4194304) :
  Calls Tryz.prog 66 #[.slice (some ⟨g, 0, none⟩) l.length cap] w (RetB (joined l) w):=by
 obtain ⟨n, hn⟩ : ∃ n, n = l.length:=⟨_, rfl⟩;have HN:=hid hn;have HR:=hid hR;rw [<- hn] at hl ⊢;clear hn hR;go_enter Tryz.func66, Tryz.ntmps66;go_wp2;go_loopg [3, 11] n (fun k s3 s11 wr => ∃ j : Nat, j + k = n /\ s11 = .int .i64 j /\ s3 = .int .i64 (joined (l.take j)).length /\ wr = w)
 case atStart => exact ⟨0, by omega, rfl, rfl, rfl⟩
 case round =>
  obtain ⟨j, hj, rfl, rfl, hwr⟩:=hrel;subst wr;have hle:=joined_take_le l j;cases gk with
  | succ k =>
   have hjn : (j : Int) < n:=by omega
   obtain ⟨r, hr⟩ : ∃ r, l[j]? = some r:=⟨_, getElem?_eq_getElem (by have:=HN.out; omega)⟩;obtain ⟨c0, _, _, hlr⟩:=HR.out.2 j r hr;have hs:=take_snoc l j r hr;have hle2:=joined_take_le l (j + 1);have hlen : (joined (l.take (j + 1))).length = (joined (l.take j)).length + r.bs.length:=by rw [hs, joined_snoc, length_append]
   have HL:=hid hlen;obtain ⟨p, hp⟩ : ∃ p, p = (joined (l.take j)).length:=⟨_, rfl⟩;obtain ⟨q, hq⟩ : ∃ q, q = r.bs.length:=⟨_, rfl⟩;rw [<- hp] at hle HL hlen ⊢;rw [<- hq] at c0 hlr HL hlen;have hpq : p + q <= 4194304:=by omega
   clear hs hlen hle2 hr hp hq;go_wp2;go_roundg k
   case measure => omega
   case rel => exact ⟨j + 1, by omega, by go_num, by rw [HL.out]; go_num, rfl⟩
  | zero =>
   obtain rfl : n = j:=by omega
   have hjn : ¬ ((n : Int) < n):=by omega
   obtain ⟨p, hp⟩ : ∃ p, p = (joined (l.take n)).length:=⟨_, rfl⟩;rw [<- hp] at hle ⊢;have hg:=grow_any p w (by omega);have HG:=hid hg;clear hp hg;go_wp2_with fail;refine HG.out.mono ?_;rintro e w2 ⟨v, rfl, hown, hb2⟩;have HR2:=hid (HR.out.below hb2);have hsz2:=hb2.size;clear HG;go_wp2_with fail;go_loopg [6, 27] n (fun k s6 s27 wz => ∃ j : Nat, j + k = n /\ s27 = .int .i64 j /\ OwnsB wz w.heap.size s6 (joined (l.take j)) /\ Below w.heap.size w wz)
   case atStart => exact ⟨0, by omega, rfl, hown, hb2⟩
   case round =>
    clear hown hb2 hsz2 hle;obtain ⟨j, hj2, rfl, hown, hb⟩:=hrel;have hsz:=hb.size;cases gk with
    | zero =>
     have hjn2 : ¬ ((j : Int) < n):=by omega
     have e : l.take j = l:=take_of_length_le (by have:=HN.out; omega);rw [e] at hown;go_wp2;go_ret;exact ⟨_, rfl, hown, hb⟩
    | succ k =>
     have hjn2 : (j : Int) < n:=by omega
     obtain ⟨r, hr⟩ : ∃ r, l[j]? = some r:=⟨_, getElem?_eq_getElem (by have:=HN.out; omega)⟩;obtain ⟨c0, hby, hno, hlr⟩:=(HR.out.below hb).2 j r hr;have hs:=take_snoc l j r hr;have hle2:=joined_take_le l (j + 1);have hlen : (joined (l.take (j + 1))).length = (joined (l.take j)).length + r.bs.length:=by rw [hs, joined_snoc, length_append]
     have hsum : (joined (l.take j)).length + r.bs.length <= 4194304:=by omega
     have HS:=hid hs;have HBY:=hid hby;have HNO:=hid hno;obtain ⟨A, bs, rc⟩:=r;simp only at c0 hsum hlr;clear hs hlen hle2 hr hby hno;go_wp2_with (at_builtin; refine append_bytes rfl _ _ rfl w.heap.size _ (joined (l.take j)) rfl hown A bs _ _ rfl rfl HBY.out HNO.out ?c1 hsz ?_)
     case c1 => omega
     intro v3 w3 hown3 hg3;have hb4:=hb.grown hg3 hsz (fun k hk => (hown.lt k hk).1);have hown4 : OwnsB w3 w.heap.size v3 (joined (l.take (j + 1))):=by rw [HS.out, joined_snoc]; exact hown3
     clear hown3 hg3 hown hb;go_wp2;go_roundg k
     case measure => omega
     case rel => exact ⟨j + 1, by omega, by go_num, hown4, hb4⟩
end Go.Proofs.YtgaemfghpibeeaaGreatDoor
namespace Go.Proofs.YtgaemfghpibeeaaGreatDoor
open Go.RowKit
attribute [local go_sem ↓] Go.wp_at_zero Go.wp_at_succ
def encM (o : Ob) : List Int:=allW [o.cls, o.kind, (sizeM o : Int)] ++ (allW o.ws ++ o.bs)
theorem encM_length (o : Ob) : (encM o).length = 12 + 4 * o.ws.length + o.bs.length:=by unfold encM;rw [length_append, length_append, allW_length, allW_length];simp; omega
theorem rows3_of (W : World) (g : Nat) (r0 r1 r2 : Row3) (hg : g < W.heap.size)
  (c : Blk W g 27 #[.slice r0.A r0.bs.length r0.cap, .slice r1.A r1.bs.length r1.cap, .slice r2.A r2.bs.length r2.cap])
  (y0 : Byts W r0.A r0.bs) (y1 : Byts W r1.A r1.bs) (y2 : Byts W r2.A r2.bs) (n0 : r0.A = none -> r0.cap = 0) (n1 : r1.A = none -> r1.cap = 0) (n2 : r2.A = none -> r2.cap = 0)
  (l0 : r0.bs.length <= 9223372036854775807) (l1 : r1.bs.length <= 9223372036854775807) (l2 : r2.bs.length <= 9223372036854775807) : Rows3 W g [r0, r1, r2]:=by
 refine ⟨hg, fun j r hj => ?_⟩;rw [c.cell]
 match j, hj with
 | 0, hj => injection hj with hj; subst hj; exact ⟨rfl, y0, n0, l0⟩
 | 1, hj => injection hj with hj; subst hj; exact ⟨rfl, y1, n1, l1⟩
 | 2, hj => injection hj with hj; subst hj; exact ⟨rfl, y2, n2, l2⟩
def SW (W0 : World) (H : Nat) (c0 c1 c2 c3 : Value) (w' : World) : Prop :=
 w'.cell? ⟨H, 0, none⟩ = some c0 /\ w'.cell? ⟨H, 1, none⟩ = some c1 /\ w'.cell? ⟨H, 2, none⟩ = some c2 /\ w'.cell? ⟨H, 3, none⟩ = some c3 /\ H < w'.heap.size /\ Below W0.heap.size W0 w'
theorem SW.below {W0 : World} {H : Nat} {c0 c1 c2 c3 : Value} {w w' : World} (h : SW W0 H c0 c1 c2 c3 w) (hb : Below w.heap.size w w') : SW W0 H c0 c1 c2 c3 w':=by obtain ⟨h0, h1, h2, h3, hl, hB⟩:=h;exact ⟨(hb.cell (p:=⟨H, 0, none⟩) hl).trans h0, (hb.cell (p:=⟨H, 1, none⟩) hl).trans h1, (hb.cell (p:=⟨H, 2, none⟩) hl).trans h2, (hb.cell (p:=⟨H, 3, none⟩) hl).trans h3, Nat.lt_of_lt_of_le hl hb.size, hB.trans (hb.mono hB.size)⟩
theorem SW.alloc {W0 : World} {H : Nat} {c0 c1 c2 c3 : Value} {w : World} (h : SW W0 H c0 c1 c2 c3 w) (o : Obj) : SW W0 H c0 c1 c2 c3 (w.alloc o):=h.below ((Below.refl _ w).alloc (Nat.le_refl _) o)
theorem SW.drew {W0 : World} {H : Nat} {c0 c1 c2 c3 : Value} {w : World} (h : SW W0 H c0 c1 c2 c3 w) : SW W0 H c0 c1 c2 c3 w.drew:=h.below ⟨rfl, rfl, rfl, Nat.le_refl _, fun _ _ => rfl⟩
theorem checkM_small {o : Ob} (h : checkM o = true) : o.ws.length <= 1000 /\ o.bs.length <= 1000:=by
 obtain ⟨_, h2⟩:=checkM_parts h;rcases h2 with ⟨_, b, c, _⟩ | ⟨_, b, c⟩
 ·rw [b]; exact ⟨c, by simp⟩
 ·rw [b]; exact ⟨by simp, c⟩
theorem encode_ok (o : Ob) (A : Option Addr) (ca : Nat) (B : Option Addr) (cb : Nat) (w : World) (hO : ObR w o A ca B cb) (hc : checkM o = true) :
  Calls Tryz.prog 35 #[.agg (obV o A ca B cb)] w fun e w' => ∃ v, e = .returned (.tuple #[v, .int .i64 0]) /\ OwnsB w' w.heap.size v (encM o) /\ Below w.heap.size w w':=by
 have hb:=(Below.refl w.heap.size w).alloc (Nat.le_refl _) (.cells (obV o A ca B cb) 29);have hck:=check_any o A ca B cb (w.alloc (.cells (obV o A ca B cb) 29)) (hO.alloc _);have hO1:=hO.alloc (.cells (obV o A ca B cb) 29);have hblk:=Blk.new w 29 (obV o A ca B cb);rw [hc] at hck;have hsize:=fun W => size_any o A ca B cb W;unfold obV at hb hck hO1 hblk hsize ⊢;have HC:=hid hck;have HSZ:=hid hsize;obtain ⟨hwl1, hwl2⟩:=checkM_small hc;have HO:=hid hO1;have hV : ∀ v ∈ [o.cls, o.kind, (sizeM o : Int)], -9223372036854775808 <= v /\ v <= 9223372036854775807:=by
  have h1:=hO.la; have h2:=hO.ca63; have h3:=hO.lb; have h4:=hO.cb63;have h5 : (sizeM o : Int) <= 9223372036854775807:=by unfold sizeM; split <;> (try split) <;> omega
  intro v hv;simp only [List.mem_cons, List.not_mem_nil, or_false] at hv;rcases hv with rfl | rfl | rfl
  ·exact hO.cls
  ·exact hO.kind
  ·omega
 have HV:=hid hV;have hJ : (allW [o.cls, o.kind, (sizeM o : Int)] ++ (allW o.ws ++ (o.bs ++ []))).length <= 4194304:=by rw [length_append, length_append, List.append_nil, allW_length, allW_length]; simp; omega
 have HJ:=hid hJ;clear hJ;clear hck hsize hO hc hO1 hV;go_enter Tryz.func35, Tryz.ntmps35;go_wp2_with fail;refine HC.out.mono ?_;rintro e w1 ⟨rfl, hb1⟩;have hblk1:=hblk.keep hb1;have HO1:=hid (HO.out.below hb1);have hb2:=hb.trans (hb1.mono hb.size);have hlt1:=hblk1.lt;have s0:=hblk1.cell 0;have s1:=hblk1.cell 1;have s2:=hblk1.cell 2;have s3:=hblk1.cell 3;clear hb hb1 hblk HO HC;have hS : SW w1 w.heap.size (.int .i64 o.cls) (.int .i64 o.kind) (.slice A o.ws.length ca) (.slice B o.bs.length cb) w1:=⟨s0, s1, s2, s3, hlt1, Below.refl _ _⟩;clear s0 s1 s2 s3;go_wp2_with fail;go_region_held3 (fun w' => w'.cell? ⟨w.heap.size, 0, none⟩ = some (.int .i64 o.cls) /\ w'.cell? ⟨w.heap.size, 1, none⟩ = some (.int .i64 o.kind) /\ w'.cell? ⟨w.heap.size, 2, none⟩ = some (.slice A o.ws.length ca) /\ w'.cell? ⟨w.heap.size, 3, none⟩ = some (.slice B o.bs.length cb) /\ w.heap.size < w'.heap.size /\ Below w1.heap.size w1 w')
  (first
   | exact SW.drew hS
   | exact SW.below (by assumption) b5
   | exact SW.below (by assumption) bA
   | exact SW.below (by assumption) bB
   | exact SW.below (by assumption) bC
   | exact SW.alloc (by assumption) _)
  (first
   | (go_at_call 52; refine (HSZ.out _).mono ?_; rintro e w5 ⟨rfl, b5⟩)
   | (go_at_call 67; have tokA:=b5; refine (wall_any _ _ [o.cls, o.kind, (sizeM o : Int)] _ (Ints.of_blk (Blk.new _ 3 _) HV.out) (by simp)).mono ?_; rintro e wA ⟨vA, rfl, oA, bA⟩; obtain ⟨AA, capA, rfl, _, _, yA, nA⟩:=oA.reads2 (allW_vals _); have z5:=b5.size; clear b5)
   | (go_at_call 67; refine (wall_any _ _ o.ws _ (HO1.out.ints.below (by exact (show SW _ _ _ _ _ _ _ by assumption).2.2.2.2.2)) (by omega)).mono ?_; rintro e wB ⟨vB, rfl, oB, bB⟩; obtain ⟨AB, capB, rfl, _, _, yB, nB⟩:=oB.reads2 (allW_vals _))
   | (go_at_call 66; refine (concat_any _ _ _ [⟨AA, allW [o.cls, o.kind, (sizeM o : Int)], capA⟩, ⟨AB, allW o.ws, capB⟩, ⟨B, o.bs, cb⟩]
     (rows3_of _ _ _ _ _ (by simp) (Blk.new _ 27 _) ((yA.below bB).alloc _) (yB.alloc _) (HO1.out.byts.below (by exact (show SW _ _ _ _ _ _ _ by assumption).2.2.2.2.2)) nA nB HO1.out.nb (by rw [allW_length]; simp) (by rw [allW_length]; omega) (by simp only; omega)) (by simp) HJ.out).mono ?_; rintro e wC ⟨vC, rfl, oC, bC⟩))
 have hS2 : SW w1 w.heap.size (.int .i64 o.cls) (.int .i64 o.kind) (.slice A o.ws.length ca) (.slice B o.bs.length cb) wC:=by assumption
 go_wp2;go_ret2;have e : joined [⟨AA, allW [o.cls, o.kind, (sizeM o : Int)], capA⟩, ⟨AB, allW o.ws, capB⟩, ⟨B, o.bs, cb⟩] = encM o:=by
  unfold encM;show _ ++ (_ ++ (_ ++ [])) = _
  rw [List.append_nil]
 rw [e] at oC;refine ⟨_, rfl, oC.mono ?_, hb2.trans (hS2.2.2.2.2.2.mono hb2.size)⟩;have h1:=hb2.size;have h2:=bA.size;have h3:=bB.size;simp at h2 h3 z5 ⊢;omega
end Go.Proofs.YtgaemfghpibeeaaGreatDoor
namespace Go.Proofs.YtgaemfghpibeeaaGreatDoor
open Go.RowKit
theorem take_ext {xs ys : List Int} (h : xs.length = ys.length) (hall : ∀ j, j < xs.length -> xs[j]? = ys[j]?) : xs = ys:=by
 apply List.ext_getElem?
 intro i;by_cases hi : i < xs.length
 ·exact hall i hi
 ·rw [List.getElem?_eq_none (by omega), List.getElem?_eq_none (by omega)]
theorem equalb_any (w : World) (A A' : Option Addr) (xs ys : List Int) (cap cap' : Nat) (hx : Byts w A xs) (hy : Byts w A' ys) (hl : xs.length <= 9223372036854775807) :
  Calls Tryz.prog 98 #[.slice A xs.length cap, .slice A' ys.length cap'] w fun e w' => e = .returned (.bool (decide (xs = ys))) /\ Below w.heap.size w w':=by
 by_cases hlen : xs.length = ys.length
 ·obtain ⟨n, hn⟩ : ∃ n, n = xs.length:=⟨_, rfl⟩;have hn2 : ys.length = n:=by omega
  obtain ⟨R, hR⟩ : ∃ R, R = decide (xs = ys):=⟨_, rfl⟩;rw [<- hR, <- hn, hn2];rw [<- hn] at hl;have HR:=hid hR;have HN:=hid hn;have HN2:=hid hn2;have HX:=hid hx;have HY:=hid hy;clear hR hn hn2 hx hy hlen;go_enter Tryz.func98, Tryz.ntmps98;go_wp2;go_loopg [13] n (fun g s13 wr => ∃ j : Nat, j + g = n /\ s13 = .int .i64 j /\ Below w.heap.size w wr /\ Aside (∀ i, i < j -> xs[i]? = ys[i]?))
  case atStart => exact ⟨0, by omega, rfl, Below.refl _ _, fun i hi => absurd hi (by omega)⟩
  case round =>
   obtain ⟨j, hj, rfl, hb, hall⟩:=hrel;cases gk with
   | zero =>
    have hjn : ¬ ((j : Int) < n):=by omega
    have hr : R = true:=by rw [HR.out, decide_eq_true_iff];have h1:=HN.out; have h2:=HN2.out;exact take_ext (by omega) (fun i hi => hall.out i (by omega))
    have HRR:=hid hr;clear hr hall HX HY;go_wp2;go_ret;rw [HRR.out];exact ⟨rfl, hb⟩
   | succ g =>
    have hjn : (j : Int) < n:=by omega
    obtain ⟨x, hxj⟩ : ∃ x, xs[j]? = some x:=⟨_, getElem?_eq_getElem (by have:=HN.out; omega)⟩;obtain ⟨y, hyj⟩ : ∃ y, ys[j]? = some y:=⟨_, getElem?_eq_getElem (by have:=HN2.out; omega)⟩;obtain ⟨_, _, b, off, rfl, _, c0⟩:=(HX.out.below hb) j x hxj;obtain ⟨_, _, b', off', rfl, _, c1⟩:=(HY.out.below hb) j y hyj;by_cases he : x = y
    ·subst he;have hall2 : Aside (∀ i, i < j + 1 -> xs[i]? = ys[i]?):=by
      intro i hi;by_cases e : i = j
      ·subst e; rw [hxj, hyj]
      ·exact hall.out i (by omega)
     clear hxj hyj hall;go_wp2_with fail;go_quiet (fail)
     go_wp2;go_roundg g
     case measure => omega
     case rel => exact ⟨j + 1, by omega, by go_num, ⟨hb.os, hb.tape, hb.output, hb.size, hb.block⟩, hall2⟩
    ·have he' : (x != y) = true:=by rw [bne_iff_ne]; exact he
     have hr : R = false:=by rw [HR.out, decide_eq_false_iff_not];intro e;subst e;rw [hxj] at hyj;exact he (Option.some.inj hyj)
     have HRR:=hid hr;clear hr hall hxj hyj he;go_wp2_with fail;go_quiet (fail)
     go_wp2;go_ret;rw [HRR.out];exact ⟨rfl, ⟨hb.os, hb.tape, hb.output, hb.size, hb.block⟩⟩
 ·have hr : decide (xs = ys) = false:=by rw [decide_eq_false_iff_not];intro e;exact hlen (by rw [e])
  rw [hr];obtain ⟨n, hn⟩ : ∃ n, n = xs.length:=⟨_, rfl⟩;obtain ⟨m, hm⟩ : ∃ m, m = ys.length:=⟨_, rfl⟩;rw [<- hn, <- hm] at hlen ⊢;have hne : ((n : Int) != (m : Int)) = true:=by rw [bne_iff_ne]; omega
  have hne2 : (n != m) = true:=by rw [bne_iff_ne]; exact hlen
  clear hr hn hm hlen hx hy hl;go_enter Tryz.func98, Tryz.ntmps98;go_wp2;go_ret;exact ⟨rfl, Below.refl _ _⟩
end Go.Proofs.YtgaemfghpibeeaaGreatDoor
