/-
  TopLoads returns true for every input; the input reads as it did. The tied card. Conditions: none but what the card says of the two listed tables.
-/
import Derived.Test.YtgaemfghpibeeaaGreatDoorPk14
import Derived.Below
import Derived.ChangeOld
import Derived.ShutString
import Derived.Test.YtgaemfghpibeeaaGreatDoorCards
import Derived.Test.YtgaemfghpibeeaaGreatDoorTie
set_option maxRecDepth 100000
set_option maxHeartbeats 6000000
open Go.Lib (hid)
open List (getElem?_eq_getElem mem_of_getElem? getElem?_append_left getElem?_append_right getD_eq_getElem?_getD eq_nil_of_length_eq_zero getElem?_eq_none_iff length_replicate take_of_length_le length_set length_append)
namespace Go.Proofs.YtgaemfghpibeeaaGreatDoor.topLoads
open Go.ChangeShapes Go.WideShapes Go.ChangeAt Go.RowKit Go.Joins
set_option linter.unusedVariables false
theorem laid_met (os : Os) : laidMet Tryz.prog Rows.topLoadsRow.laid ((laidWorld os).forCall (fun _ _ => 0) ⟨#[], #[.agg #[.slice none 0 0, .int .i64 0], .int .u16 0, .int .u16 0, .int .u8 0], []⟩).memory :=
 laidMet_of_run' 8 (by kernel_rfl) (by kernel_rfl)
theorem reads (os : Os) {H : Type} (enc : TypeId × Value -> H) : ∃ places, DataW.whole enc Tryz.prog ((laidWorld os).forCall (fun _ _ => 0) ⟨#[], #[.agg #[.slice none 0 0, .int .i64 0], .int .u16 0, .int .u16 0, .int .u8 0], []⟩).memory Tryz.f3.params.toList Rows.topLoadsSpec.vars false #[Value.agg #[.slice none 0 0, .int .i64 0], .int .u16 0, .int .u16 0, .int .u8 0].toList 8 = some ([.agg [.nil, .lit (.int .i64 0)], .lit (.int .u16 0), .lit (.int .u16 0), .lit (.int .u8 0)], [], places) :=
 ⟨[], by kernel_rfl⟩
theorem cells24 : Tryz.prog.cellsOf 24 = 2:=by kernel_rfl
theorem contract (H : Type) (enc : TypeId × Value -> H) (W : World) (base : Nat) (args : Array Value) (ds gs : List (DataW H)) (before : List MemPlace)
  (hval : ∀ (j : Nat) t v, Tryz.f3.params[j]? = some t -> args[j]? = some v -> Value.okWide Tryz.prog W .any base t v)
  (hW : DataW.Whole enc Tryz.prog Tryz.f3.params.toList Rows.topLoadsSpec.vars false W args.toList ds gs before) (hL : laidMetH Tryz.prog Rows.topLoadsRow.laid W) :
  Calls Tryz.prog 3 args W fun e W' => ∃ v, e = .returned v /\ Rows.topLoadsSpec.post enc Tryz.prog Tryz.f3 false true false false W args v W':=by
 have hW':=hW;obtain ⟨p, q, hA0, hV, rfl, hfz, hnd⟩:=hW;have hA : DataW.TrodAll enc Tryz.prog W 0 (fun _ => true) true Tryz.f3.params.toList args.toList ds p:=hA0;rw [Tryz.params3] at hA hval;obtain ⟨v0, vs0, d0, ds0, p0, q0, hargs, rfl, rfl, h0, r0⟩:=trodAll_cons hA;obtain ⟨v1, vs1, d1, ds1, p1, q1, rfl, rfl, rfl, h1, r1⟩:=trodAll_cons r0;obtain ⟨v2, vs2, d2, ds2, p2, q2, rfl, rfl, rfl, h2, r2⟩:=trodAll_cons r1;obtain ⟨v3, vs3, d3, ds3, p3, q3, rfl, rfl, rfl, h3, r3⟩:=trodAll_cons r2;obtain ⟨rfl, rfl, rfl⟩:=trodAll_nil r3;obtain rfl : args = #[v0, v1, v2, v3]:=by cases args; simp_all
 obtain ⟨rfl, rfl⟩:=trodVars_none hV;have k0:=h0;have lt0 : ∀ x ∈ p0, x.block < W.heap.size:=by obtain ⟨m, hm⟩:=k0; exact DataW.trod_lt m _ _ _ hm
 obtain ⟨c0, c1, y0, y1, n, rfl, rfl, rfl, g0, g1⟩:=open_agg2 Tryz.underlying24 (by kernel_rfl) cells24 (hval 0 24 v0 rfl rfl) h0;obtain ⟨A, cap, l, rfl, hl, hm, hO⟩:=objs_in g0;obtain ⟨f, ef, _, wf⟩:=DataW.trod_int Tryz.underlying3 g1;simp at ef;subst ef;obtain ⟨a1, rfl, rfl, rfl, w1⟩:=open_int Tryz.underlying25 (hval 1 25 v1 rfl rfl) h1;obtain ⟨a2, rfl, rfl, rfl, w2⟩:=open_int Tryz.underlying25 (hval 2 25 v2 rfl rfl) h2;obtain ⟨a3, rfl, rfl, rfl, w3⟩:=open_int Tryz.underlying5 (hval 3 5 v3 rfl rfl) h3;clear hA0;refine (top_any l A cap f a1 a2 a3 W hO (Nat.le_trans hl hm) (i64_bd wf) (u16_bd w1) (u16_bd w2) (u8_bd w3) (tabs_of hL)).mono fun e W' ⟨he, bel⟩ => ?_;subst he;exact ⟨_, rfl, _, _, _, [], _, [], hW', trodAll_mk1 (shut_bool Tryz.underlying4 _), (trodAll_cons_mk (Below.trod laidOut (by kernel_rfl) (of_decide_eq_true (by kernel_rfl)) k0 bel lt0) (trodAll_cons_mk (shut_int Tryz.underlying25 w1) (trodAll_cons_mk (shut_int Tryz.underlying25 w2) (trodAll_cons_mk (shut_int Tryz.underlying5 w3) trodAll_mk0)))), rfl, bel.frame _, fun h => by cases h⟩
theorem lifted (os : Os) (started : os.Started) (H : Type) (enc : TypeId × Value -> H) (F : Stop.Interp) :
  ReturnsInHanded {} Tryz.checked os 3 .any ((OpenSpec.ofChange Rows.topLoadsSpec).preRow enc Tryz.prog Tryz.f3 Rows.topLoadsRow.domain false Rows.topLoadsRow.laid) (((OpenSpec.ofChange Rows.topLoadsSpec).at F).post enc Tryz.prog Tryz.f3 false true false false):=by
 obtain ⟨places, hx⟩:=reads os enc;refine returnsInHanded_of_row (C:=Tryz.checked) (s:=OpenSpec.ofChange Rows.topLoadsSpec) own started (by kernel_rfl) Tryz.func3
  (witness_row_at (enc:=enc) (C:=Tryz.checked) false (laidWorld os) #[.agg #[.slice none 0 0, .int .i64 0], .int .u16 0, .int .u16 0, .int .u8 0] rfl (by kernel_rfl) (by kernel_rfl) (by kernel_rfl)
   (OpenSpec.preRow_of_cond 8 hx (by kernel_rfl) (fun k hk => by cases hk) (by kernel_rfl) (laid_met os))) ?_
 intro W base args ds gs before hval hW _ _ _ hL _ _;exact contract H enc W base args ds gs before hval hW hL
theorem said : Rows.TopLoadsSaid :=
 OpenClaim.holds_of_cond 3 Tryz.f3 rfl rfl rfl rfl rfl rfl rfl ⟨rfl, rfl, rfl, rfl, rfl⟩ rfl rfl rfl rfl rfl (by kernel_rfl) Tryz.func3 (by kernel_rfl)
  (of_decide_eq_true (by kernel_rfl)) (by unfold Func.isWrapper; first | (rw [if_pos (by decide +kernel)]; kernel_rfl) | (rw [if_neg (by decide +kernel)]; exact ⟨rfl, rfl⟩))
  (fun os started H enc _ F => by rw [OpenClaim.pre_eq_preRow]; exact lifted os started H enc F)
theorem plain (f : FuncId) (fn : Func) (hf : Tryz.pinned.checked.prog.funcNamed "webster/webstertop.TopLoads" = some f) (hfn : Tryz.pinned.checked.prog.funcs[f]? = some fn) :
  false = Tryz.pinned.checked.prog.looks [] /\ ∀ (j : Nat) t, fn.params[j]? = some t -> Tryz.pinned.checked.prog.wantsStandIn t = false:=by
 obtain rfl : f = 3:=Option.some.inj ((show Tryz.prog.funcNamed "webster/webstertop.TopLoads" = some 3 by kernel_rfl).symm.trans hf) |>.symm;obtain rfl : fn = Tryz.f3:=(Option.some.inj (Tryz.func3.symm.trans hfn)).symm;refine ⟨by kernel_rfl, fun j t ht => ?_⟩;rw [Tryz.params3] at ht;have hm : t ∈ [24, 25, 25, 5]:=by simpa using Array.mem_of_getElem? ht
 have hall : ([24, 25, 25, 5].all fun u => !Tryz.prog.wantsStandIn u) = true:=by kernel_rfl
 exact (show Tryz.prog.wantsStandIn t = false by simpa using List.all_eq_true.1 hall t hm)
theorem card : Rows.TopLoadsCardSaid :=
 Claim7.holds_tied_plain_at .later [] _ _ _ _ said (fun _ h => by cases h) (by kernel_rfl) (fun _ h => by cases h) topLoads_row_tie rfl ⟨rfl, rfl⟩ (by kernel_rfl) rfl plain (by kernel_rfl)
#print axioms card
end Go.Proofs.YtgaemfghpibeeaaGreatDoor.topLoads
