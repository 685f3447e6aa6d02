/-
  A stable sort in place; a heap of blocks is made, read, freed, packed and written as its plain law says. Conditions: each theorem names its own.
-/
import Derived.Test.YtgaemfghpibeeaaGreatDoorPk05
import Derived.Deep.CutBlock
import Derived.Deep.CutRange
set_option maxRecDepth 100000
set_option maxHeartbeats 6000000
open Go.Lib (hid)
open List (getElem?_eq_getElem mem_of_getElem? getElem?_append_left getElem?_append_right getD_eq_getElem?_getD eq_nil_of_length_eq_zero getElem?_eq_none_iff length_replicate take_of_length_le length_set length_append)
namespace Go.Proofs.YtgaemfghpibeeaaGreatDoor
open Go.RowKit
theorem rot_int (P : HpP) (mem : List Int) (bs : List Hb) (d cap a m b N : Nat) (e : Int) (ks : List Nat) (V : Value) (w : World) (h : SoAt w P mem bs d cap ks) (hN : N = ks.length) (he : e = b) (ham : a < m) (hmb : m < b) (hb : b <= ks.length) :
  Calls Tryz.prog 229 #[.slice (some ⟨d, 0, none⟩) N cap, .int .i64 a, .int .i64 m, .int .i64 e, V] w fun e w' => e = .returned (.tuple #[]) /\ ∃ ks', SoAt w' P mem bs d cap ks' /\ Rot a m b ks ks' /\ Mid a b ks ks' /\ Only (fun g => g = d) w w':=by
 subst hN; subst he;exact rot_any P mem bs d cap a m b ks V w h ham hmb hb
def SymTo (P : HpP) (mem : List Int) (bs : List Hb) (d cap n : Nat) : Prop :=
 ∀ (a m b N : Nat) (e1 e2 : Int) (ks : List Nat) (w : World), SoAt w P mem bs d cap ks -> N = ks.length -> e1 = m -> e2 = b -> a < m -> m < b -> b <= N -> b - a <= n -> Asc (plc bs) a m ks -> Asc (plc bs) m b ks ->
  ∀ a' : Int, a' = a -> Calls Tryz.prog 228 #[.slice (some ⟨d, 0, none⟩) N cap, .int .i64 a', .int .i64 e1, .int .i64 e2, .func (.func 225) #[.pointer (some ⟨P.h, 0, none⟩)] #[]] w (SymPost P mem bs d cap a b ks w)
theorem sym_rest (P : HpP) (mem : List Int) (bs : List Hb) (d cap a m b N : Nat) (ks : List Nat) (w : World) (h : SoAt w P mem bs d cap ks) (hN : N = ks.length) (ham : a + 1 < m) (hmb : m + 1 < b) (hb : b <= N) (hA : Asc (plc bs) a m ks) (hB : Asc (plc bs) m b ks)
  (IH : SymTo P mem bs d cap (b - a - 1)) :
  Calls Tryz.prog 228 #[.slice (some ⟨d, 0, none⟩) N cap, .int .i64 a, .int .i64 m, .int .i64 b, .func (.func 225) #[.pointer (some ⟨P.h, 0, none⟩)] #[]] w (SymPost P mem bs d cap a b ks w):=by
 have hN1 : N <= 1000:=by rw [hN]; exact h.count
 obtain ⟨mid, hmid⟩ : ∃ c, c = (a + b) / 2:=⟨_, rfl⟩;have hm0 : ((m : Int) - (a : Int) == 1) = false:=by simp; omega
 have hm1 : ((b : Int) - (m : Int) == 1) = false:=by simp; omega
 have hsum : ((a : Int) + (b : Int)) / 2 = (mid : Int):=by omega
 have g1 : a < mid:=by omega
 have g2 : mid < b:=by omega
 have g3 : 2 * mid <= a + b:=by omega
 have g4 : a + b <= 2 * mid + 1:=by omega
 have HN:=hid hN;have H:=hid h;have HA:=hid hA;have HB:=hid hB;have I:=hid IH;clear hN h hA hB IH hmid;go_enter Tryz.func228, Tryz.ntmps228;have key : ∃ s0 r0 : Nat, a <= s0 /\ s0 <= r0 /\ r0 <= m /\ r0 <= mid /\ mid + m <= s0 + b /\ (s0 = a \/ s0 + b = mid + m) /\ (r0 = m \/ r0 = mid) /\ (m > mid -> s0 + b = mid + m /\ r0 = mid) /\ (m <= mid -> s0 = a /\ r0 = m):=by
  by_cases hmm : m > mid
  ·exact ⟨mid + m - b, mid, by omega, by omega, by omega, by omega, by omega, by omega, by omega, by omega, by omega⟩
  ·exact ⟨a, m, by omega, by omega, by omega, by omega, by omega, by omega, by omega, by omega, by omega⟩
 obtain ⟨s0, r0, k1, k2, k3, k4, k5, k6, k7, k8, k9⟩:=key;have K6:=hid k6;have K7:=hid k7;have K8:=hid k8;have K9:=hid k9;clear k6 k7 k8 k9;go_upto_if 140 with (fail)
 go_cut [20, 21] from 141 to 146 (fun s20 s21 wx => s20 = .int .i64 s0 /\ s21 = .int .i64 r0 /\ wx = w)
 case first =>
  by_cases hmm : mid < m
  ·go_wp2_with fail;go_meet;exact ⟨by have:=(K8.out hmm).1; congr 1; omega, by rw [(K8.out hmm).2], rfl⟩
  ·go_wp2_with fail;go_meet;exact ⟨by rw [(K9.out (by omega)).1], by rw [(K9.out (by omega)).2], rfl⟩
 obtain ⟨rfl, rfl, hwc⟩:=hcut;subst wc;go_wp2_with fail;go_loopg [20, 21] (r0 - s0) (fun gk s20 s21 wr => ∃ (s r : Nat), r <= s + gk /\ s0 <= s /\ s <= r /\ r <= r0 /\ s20 = .int .i64 s /\ s21 = .int .i64 r /\ Aside (s = s0 \/ plc bs (ks.getD (s - 1) 0) <= plc bs (ks.getD (mid + m - s) 0)) /\ Aside (r = r0 \/ plc bs (ks.getD (mid + m - 1 - r) 0) < plc bs (ks.getD r 0)) /\ SoAt wr P mem bs d cap ks /\ Only (fun g => g = d) w wr)
 case atStart => exact ⟨s0, r0, by omega, by omega, by omega, by omega, rfl, rfl, .inl rfl, .inl rfl, H.out, Only.refl _ _⟩
 case round =>
  obtain ⟨s, r, hsr, hs0, hsr2, hr0, rfl, rfl, hlo, hhi, h1, hO⟩:=hrel;have H1:=hid h1;have HO:=hid hO;by_cases hlt : s < r
  ·cases gk with
   | zero => omega
   | succ g =>
    obtain ⟨c, hh⟩ : ∃ c, c = (s + r) / 2:=⟨_, rfl⟩;have hc1 : s <= c:=by omega
    have hc2 : c < r:=by omega
    have hcN : c < N:=by omega
    have hsc : ((s : Int) + (r : Int)) / 2 = (c : Int):=by omega
    obtain ⟨q, hq⟩ : ∃ q, q = mid + m - 1 - c:=⟨_, rfl⟩;have hqN : q < N:=by omega
    have hqc : ((mid : Int) + (m : Int) - 1 - (c : Int)) = (q : Int):=by omega
    have lc:=H.out.lt c (by have:=HN.out; omega);have lq:=H.out.lt q (by have:=HN.out; omega);have cc:=h1.cell c (by have:=HN.out; omega);have cq:=h1.cell q (by have:=HN.out; omega);obtain ⟨x, hx⟩ : ∃ x, x = ks.getD c 0:=⟨_, rfl⟩;obtain ⟨y, hy⟩ : ∃ y, y = ks.getD q 0:=⟨_, rfl⟩;rw [<- hx] at lc cc;rw [<- hy] at lq cq;obtain ⟨u, hu⟩ : ∃ u, u = plc bs x:=⟨_, rfl⟩;obtain ⟨v, hv⟩ : ∃ u, u = plc bs y:=⟨_, rfl⟩;have hub : u <= 32768:=by rw [hu]; exact plc_le H.out.small x
    have hvb : v <= 32768:=by rw [hv]; exact plc_le H.out.small y
    have pq:=fun q => place_quiet P mem bs y x (v : Int) (u : Int) wr h1.heap H.out.small lq lc q (by rw [hv]) (by rw [hu]);have PQ:=hid pq;have HX:=hid hx;have HY:=hid hy;have HU:=hid hu;have HV:=hid hv;have HQ:=hid hq;clear pq hx hy hu hv hh h1 hO hq;by_cases huv : v < u
    ·have hbb : decide ((v : Int) - (u : Int) < 0) = true:=by simp; omega
     go_wp2_with fail;clear hsc hsum;go_quiet (first | (go_at_call 225; exact PQ.out _))
     go_wp2_with fail;go_roundg g
     case measure => omega
     case rel => exact ⟨s, c, by omega, by omega, by omega, by omega, rfl, rfl, hlo, .inr (by rw [<- HQ.out, <- HX.out, <- HY.out, <- HU.out, <- HV.out]; exact huv), H1.out.drewN nq, HO.out.drewN nq⟩
    ·have hbb : decide ((v : Int) - (u : Int) < 0) = false:=by simp; omega
     go_wp2_with fail;clear hsc hsum;go_quiet (first | (go_at_call 225; exact PQ.out _))
     go_wp2_with fail;go_roundg g
     case measure => omega
     case rel => exact ⟨c + 1, r, by omega, by omega, by omega, by omega, by go_num, rfl, .inr (by
      have hqq:=HQ.out;have e1 : mid + m - (c + 1) = q:=by omega
      rw [e1, Nat.add_sub_cancel, <- HX.out, <- HY.out, <- HU.out, <- HV.out]; omega), hhi, H1.out.drewN nq, HO.out.drewN nq⟩
  ·obtain rfl : s = r:=by omega
   clear hsr hsr2 hlt h1 hO;have HLO:=hid hlo.out;have HHI:=hid hhi.out;clear hlo hhi;obtain ⟨e, he⟩ : ∃ e, e + s = mid + m:=⟨mid + m - s, by omega⟩;have hes : ((mid : Int) + (m : Int) - (s : Int)) = (e : Int):=by omega
   have q1 : m <= e:=by omega
   have q2 : e <= b:=by omega
   have q3 : a <= s:=by omega
   have q4 : s <= m:=by omega
   have qlo : Hid (s = a \/ e = b \/ plc bs (ks.getD (s - 1) 0) <= plc bs (ks.getD e 0)):=by
    apply Lib.hid
    rcases HLO.out with hl | hl
    ·rcases K6.out with hk | hk
     ·exact .inl (by omega)
     ·exact .inr (.inl (by omega))
    ·have e1 : mid + m - s = e:=by omega
     rw [e1] at hl;exact .inr (.inr hl)
   have qhi : Hid (s = m \/ e = m \/ plc bs (ks.getD (e - 1) 0) < plc bs (ks.getD s 0)):=by
    apply Lib.hid
    rcases HHI.out with hl | hl
    ·rcases K7.out with hk | hk
     ·exact .inl (by omega)
     ·exact .inr (.inl (by omega))
    ·have e1 : mid + m - 1 - s = e - 1:=by omega
     rw [e1] at hl;exact .inr (.inr hl)
   have HE:=hid he;clear he;have qmid : mid = s + (e - m):=by have:=HE.out; omega
   have QM:=hid qmid;clear qmid;go_upto_region 39 with (fail);go_cut [185] from 178 to 184 (fun c wx => c = .bool (decide (s < m /\ m < e)) /\ wx = wr)
   case first =>
    by_cases t1 : s < m
    ·by_cases t2 : m < e
     ·go_wp2_with fail;go_meet;exact ⟨by simp [t1, t2], rfl⟩
     ·go_wp2_with fail;go_meet;exact ⟨by simp [t2], rfl⟩
    ·go_wp2_with fail;go_meet;exact ⟨by simp [t1], rfl⟩
   obtain ⟨rfl, hwc⟩:=hcut;subst wc;go_upto_if 185 with (fail)
   go_cut [185] from 186 to 191 (fun _ wx => ∃ ks1, SoAt wx P mem bs d cap ks1 /\ ks1.length = N /\ Aside (Cut4 (plc bs) a s mid e b ks1) /\ Mid a b ks ks1 /\ Only (fun g => g = d) w wx)
   case first =>
    by_cases hrt : s < m /\ m < e
    ·have hrb : decide (s < m /\ m < e) = true:=by simp [hrt]
     have R:=hid hrt;clear hrt;go_wp2_with fail;refine (rot_int P mem bs d cap s m e N _ ks _ _ H1.out HN.out rfl R.out.1 R.out.2 (by have:=HN.out; omega)).mono ?_;rintro e' w2 ⟨rfl, ks1, h2, hR, hM, hO2⟩;go_wp2_with fail;go_meet;exact ⟨ks1, h2, hM.len.trans HN.out.symm, cut4 HA.out HB.out q3 q4 q1 q2 (by have:=HN.out; omega) QM.out qlo.out qhi.out hR, hM.mono q3 q2, HO.out.trans hO2⟩
    ·have hrb : decide (s < m /\ m < e) = false:=by simp [hrt]
     have R:=hid hrt;clear hrt;go_wp2_with fail;go_meet;exact ⟨ks, H1.out, HN.out.symm, cut4 HA.out HB.out q3 q4 q1 q2 (by have:=HN.out; omega) QM.out qlo.out qhi.out (Rot.none ks (by have:=R.out; omega) q4 q1), Mid.refl _ _ _, HO.out⟩
   obtain ⟨ks1, h2, hl2, hC, hM, hO2⟩:=hcut;have H2:=hid h2;have HL2:=hid hl2;have HC:=hid (show Cut4 (plc bs) a s mid e b ks1 from hC.out);have HM:=hid hM;have HO2:=hid hO2;clear h2 hl2 hC hM hO2
   rename World => w2
   go_upto_region 41 with (fail);go_cut [199] from 192 to 198 (fun c wx => c = .bool (decide (a < s /\ s < mid)) /\ wx = w2)
   case first =>
    by_cases t1 : a < s
    ·by_cases t2 : s < mid
     ·go_wp2_with fail;go_meet;exact ⟨by simp [t1, t2], rfl⟩
     ·go_wp2_with fail;go_meet;exact ⟨by simp [t2], rfl⟩
    ·go_wp2_with fail;go_meet;exact ⟨by simp [t1], rfl⟩
   obtain ⟨rfl, hwc⟩:=hcut;subst wc;go_upto_if 199 with (fail)
   go_cut [199] from 200 to 205 (fun _ wx => ∃ ks2, SoAt wx P mem bs d cap ks2 /\ ks2.length = N /\ Aside (Asc (plc bs) a mid ks2 /\ Asc (plc bs) mid e ks2 /\ Asc (plc bs) e b ks2 /\ Low (plc bs) a mid b ks2) /\ Mid a b ks ks2 /\ Only (fun g => g = d) w wx)
   case first =>
    by_cases hrt : a < s /\ s < mid
    ·have hrb : decide (a < s /\ s < mid) = true:=by simp [hrt]
     have R:=hid hrt;clear hrt;go_wp2_with fail;refine (I.out a s mid N _ _ ks1 _ H2.out HL2.out.symm rfl rfl R.out.1 R.out.2 (by omega) (by omega) HC.out.a1 HC.out.b1 _ rfl).mono ?_;rintro e' w3 ⟨rfl, ks2, h3, hA2, hM2, hO3⟩;go_wp2_with fail;go_meet;exact ⟨ks2, h3, hM2.len.trans HL2.out, ⟨hA2, HC.out.a2.of_eq (fun i h1 h2 => hM2.out i (by omega)), HC.out.b2.of_eq (fun i h1 h2 => hM2.out i (by omega)), HC.out.low.left hM2⟩, HM.out.trans (hM2.mono (by omega) (by omega)), HO2.out.trans hO3⟩
    ·have hrb : decide (a < s /\ s < mid) = false:=by simp [hrt]
     have R:=hid hrt;clear hrt;go_wp2_with fail;go_meet;have hs : s <= mid:=by have:=HE.out; omega
     refine ⟨ks1, H2.out, HL2.out, ⟨?_, HC.out.a2, HC.out.b2, HC.out.low⟩, HM.out, HO2.out⟩;by_cases hsa : a = s
     ·rw [hsa]; exact HC.out.b1
     ·have : s = mid:=by have:=R.out; omega
      rw [<- this]; exact HC.out.a1
   obtain ⟨ks2, h3, hl3, hC2, hM2, hO3⟩:=hcut;have H3:=hid h3;have HL3:=hid hl3;have HC2:=hid hC2.out;have HM2:=hid hM2;have HO3:=hid hO3;clear h3 hl3 hC2 hM2 hO3
   rename World => w3
   go_upto_region 43 with (fail);go_cut [213] from 206 to 212 (fun c wx => c = .bool (decide (mid < e /\ e < b)) /\ wx = w3)
   case first =>
    by_cases t1 : mid < e
    ·by_cases t2 : e < b
     ·go_wp2_with fail;go_meet;exact ⟨by simp [t1, t2], rfl⟩
     ·go_wp2_with fail;go_meet;exact ⟨by simp [t2], rfl⟩
    ·go_wp2_with fail;go_meet;exact ⟨by simp [t1], rfl⟩
   obtain ⟨rfl, hwc⟩:=hcut;subst wc;have hme : mid <= e:=by have:=HE.out; omega
   by_cases hrt : mid < e /\ e < b
   ·have hrb : decide (mid < e /\ e < b) = true:=by simp [hrt]
    have R:=hid hrt;clear hrt;go_wp2_with fail;refine (I.out mid e b N _ _ ks2 _ H3.out HL3.out.symm rfl rfl R.out.1 R.out.2 hb (by omega) HC2.out.2.1 HC2.out.2.2.1 _ rfl).mono ?_;rintro e' w4 ⟨rfl, ks3, h4, hA4, hM4, hO4⟩;go_wp2_with fail;go_end0
    refine ⟨rfl, ks3, h4, ?_, HM2.out.trans (hM4.mono (by omega) (by omega)), HO3.out.trans hO4⟩;exact (HC2.out.2.2.2.right hM4).asc (HC2.out.1.of_eq (fun i h1 h2 => hM4.out i (by omega))) hA4
   ·have hrb : decide (mid < e /\ e < b) = false:=by simp [hrt]
    have R:=hid hrt;clear hrt;go_wp2_with fail;go_end0
    refine ⟨rfl, ks2, H3.out, ?_, HM2.out, HO3.out⟩;refine HC2.out.2.2.2.asc HC2.out.1 ?_;by_cases hsa : mid = e
    ·rw [hsa]; exact HC2.out.2.2.1
    ·have : e = b:=by have:=R.out; omega
     rw [<- this]; exact HC2.out.2.1
theorem sym_to (P : HpP) (mem : List Int) (bs : List Hb) (d cap n : Nat) : SymTo P mem bs d cap n:=by
 induction n with
 | zero => intro a m b N e1 e2 ks w h hN he1 he2 ham hmb hb hn; omega
 | succ n ih =>
  intro a m b N e1 e2 ks w h hN he1 he2 ham hmb hb hn hA hB a' ha';subst he1; subst he2; subst ha';by_cases h1 : m = a + 1
  ·subst h1;exact sym_left P mem bs d cap a b N ks w h hN (by omega) hb hB
  ·by_cases h2 : b = m + 1
   ·subst h2;exact sym_right P mem bs d cap a m N ks w h hN (by omega) (by omega) hA
   ·refine sym_rest P mem bs d cap a m b N ks w h hN (by omega) (by omega) hb hA hB ?_;intro a0 m0 b0 N0 f1 f2 k0 w0 g1 g2 g3 g4 g5 g6 g7 g8;exact ih a0 m0 b0 N0 f1 f2 k0 w0 g1 g2 g3 g4 g5 g6 g7 (by omega)
def Blks (κ : Nat -> Nat) (D a n : Nat) (ks : List Nat) : Prop:=∀ p q x y, a <= p -> p < q -> q < n -> p / D = q / D -> ks[p]? = some x -> ks[q]? = some y -> κ x <= κ y
theorem div_is {D s p : Nat} (h1 : D * s <= p) (h2 : p < D * s + D) : p / D = s:=by
 have h3 : p < (s + 1) * D:=by rw [Nat.add_mul, Nat.mul_comm s D, Nat.one_mul]; exact h2
 exact Nat.div_eq_of_lt_le (by rw [Nat.mul_comm]; exact h1) h3
theorem div_lt_of {D s p : Nat} (hD : 0 < D) (h1 : p < D * s) : p / D < s:=(Nat.div_lt_iff_lt_mul hD).2 (by rw [Nat.mul_comm]; exact h1)
theorem Blks.asc {κ : Nat -> Nat} {D a n s b : Nat} {ks : List Nat} (h : Blks κ D a n ks) (hs : a <= D * s) (hb : b <= D * s + D) (hn : b <= n) : Asc κ (D * s) b ks:=by intro p q x y h1 h2 h3 h4 h5;refine h p q x y (by omega) h2 (by omega) ?_ h4 h5;rw [div_is h1 (by omega), div_is (D:=D) (s:=s) (p:=q) (by omega) (by omega)]
theorem Blks.add {κ : Nat -> Nat} {D t b : Nat} {ks ks' : List Nat} (hD : 0 < D) (h : Blks κ D 0 (D * t) ks) (hm : Mid (D * t) b ks ks') (hA : Asc κ (D * t) b ks') : Blks κ D 0 b ks':=by
 intro p q x y _ h2 h3 h4 h5 h6;by_cases hq : q < D * t
 ·rw [hm.out p (by omega)] at h5;rw [hm.out q (by omega)] at h6;exact h p q x y (Nat.zero_le _) h2 hq h4 h5 h6
 ·by_cases hp : p < D * t
  ·have e1:=div_lt_of hD hp;have e2 : t <= q / D:=(Nat.le_div_iff_mul_le hD).2 (by rw [Nat.mul_comm]; omega);omega
  ·exact hA p q x y (by omega) h2 h3 h5 h6
theorem Blks.rest {κ : Nat -> Nat} {D a b n : Nat} {ks ks' : List Nat} (h : Blks κ D a n ks) (hm : Mid a b ks ks') (hab : a <= b) : Blks κ D b n ks':=by intro p q x y h1 h2 h3 h4 h5 h6;rw [hm.out p (by omega)] at h5;rw [hm.out q (by omega)] at h6;exact h p q x y (by omega) h2 h3 h4 h5 h6
theorem Blks.all {κ : Nat -> Nat} {D n : Nat} {ks : List Nat} (h : Blks κ D 0 n ks) (hn : n <= D) : Asc κ 0 n ks:=by intro p q x y h1 h2 h3 h4 h5;refine h p q x y h1 h2 h3 ?_ h4 h5;rw [Nat.div_eq_of_lt (by omega), Nat.div_eq_of_lt (by omega)]
theorem sym_int (P : HpP) (mem : List Int) (bs : List Hb) (d cap a m b N : Nat) (e1 e2 e3 : Int) (ks : List Nat) (w : World) (h : SoAt w P mem bs d cap ks) (hN : N = ks.length) (h1 : e1 = a) (h2 : e2 = m) (h3 : e3 = b) (ham : a < m) (hmb : m < b) (hb : b <= N)
  (hA : Asc (plc bs) a m ks) (hB : Asc (plc bs) m b ks) :
  Calls Tryz.prog 228 #[.slice (some ⟨d, 0, none⟩) N cap, .int .i64 e1, .int .i64 e2, .int .i64 e3, .func (.func 225) #[.pointer (some ⟨P.h, 0, none⟩)] #[]] w (SymPost P mem bs d cap a b ks w) :=
 sym_to P mem bs d cap (b - a) a m b N e2 e3 ks w h hN h2 h3 ham hmb hb (Nat.le_refl _) hA hB e1 h1
theorem ins_int (P : HpP) (mem : List Int) (bs : List Hb) (d cap a b N : Nat) (e1 e2 : Int) (ks : List Nat) (w : World) (h : SoAt w P mem bs d cap ks) (hN : N = ks.length) (h1 : e1 = a) (h2 : e2 = b) (hab : a <= b) (hb : b <= N) :
  Calls Tryz.prog 227 #[.slice (some ⟨d, 0, none⟩) N cap, .int .i64 e1, .int .i64 e2, .func (.func 225) #[.pointer (some ⟨P.h, 0, none⟩)] #[]] w (SymPost P mem bs d cap a b ks w):=by
 subst h1; subst h2;exact ins_any P mem bs d cap a b N ks w h hN hab hb
theorem stable_any (P : HpP) (mem : List Int) (bs : List Hb) (d cap N : Nat) (ks : List Nat) (w : World) (h : SoAt w P mem bs d cap ks) (hN : N = ks.length) :
  Calls Tryz.prog 226 #[.slice (some ⟨d, 0, none⟩) N cap, .int .i64 N, .func (.func 225) #[.pointer (some ⟨P.h, 0, none⟩)] #[]] w (SymPost P mem bs d cap 0 N ks w):=by
 have hN1 : N <= 1000:=by rw [hN]; exact h.count
 have HN:=hid hN;have H:=hid h;clear hN h;go_enter Tryz.func226, Tryz.ntmps226;go_wp2_with fail;go_loopg [7, 8] N (fun gk s7 s8 wr => ∃ (t : Nat) (ks1 : List Nat), N <= 20 * t + gk /\ 20 * t <= N /\ s7 = .int .i64 ((20 * t : Nat) : Int) /\ s8 = .int .i64 ((20 * t + 20 : Nat) : Int) /\ SoAt wr P mem bs d cap ks1 /\ ks1.length = N /\ Aside (Blks (plc bs) 20 0 (20 * t) ks1) /\ Mid 0 N ks ks1 /\ Only (fun g => g = d) w wr)
 case atStart => exact ⟨0, ks, by omega, by omega, rfl, rfl, H.out, HN.out.symm, fun p q x y h1 h2 h3 => absurd h3 (by omega), Mid.refl _ _ _, Only.refl _ _⟩
 case round =>
  obtain ⟨t, ks1, ht, ht2, rfl, rfl, h1, hl1, hB, hM, hO⟩:=hrel;have H1:=hid h1;have HL1:=hid hl1;have HB:=hid (show Blks (plc bs) 20 0 (20 * t) ks1 from hB.out);have HM:=hid hM;have HO:=hid hO;clear h1 hl1 hB hM hO;obtain ⟨a, ha⟩ : ∃ a, a = 20 * t:=⟨_, rfl⟩;have hb : 20 * t + 20 = a + 20:=by omega
  rw [hb, <- ha];rw [<- ha] at ht ht2;have HA:=hid ha;clear hb ha;by_cases hbn : a + 20 <= N
  ·cases gk with
   | zero => omega
   | succ g =>
    have hbi : (a : Int) + 20 <= N:=by omega
    go_wp2_with fail;refine (ins_int P mem bs d cap a (a + 20) N _ _ ks1 _ H1.out HL1.out.symm rfl (by omega) (by omega) hbn).mono ?_;rintro e w2 ⟨rfl, ks2, h2, hA2, hM2, hO2⟩;go_wp2_with fail;go_roundg g
    case measure => omega
    case rel =>
     have ha:=HA.out;refine ⟨t + 1, ks2, by omega, by omega, by congr 1; omega, by congr 1; omega, h2, hM2.len.trans HL1.out, ?_, HM.out.trans (hM2.mono (by omega) (by omega)), HO.out.trans hO2⟩;have e1 : 20 * (t + 1) = a + 20:=by omega
     show Blks (plc bs) 20 0 (20 * (t + 1)) ks2
     rw [e1];subst ha;exact HB.out.add (by omega) hM2 hA2
  ·have hbi : ¬ ((a : Int) + 20 <= N):=by omega
   go_wp2_with fail;refine (ins_int P mem bs d cap a N N _ _ ks1 _ H1.out HL1.out.symm rfl rfl (by omega) (Nat.le_refl _)).mono ?_;rintro e w2 ⟨rfl, ks2, h2, hA2, hM2, hO2⟩;have hB2 : Blks (plc bs) 20 0 N ks2:=by have ha:=HA.out;subst ha;exact HB.out.add (by omega) hM2 hA2
   have H2:=hid h2;have HL2:=hid (hM2.len.trans HL1.out);have HB2:=hid hB2;have HM2:=hid (HM.out.trans (hM2.mono (Nat.zero_le a) (Nat.le_refl _)));have HO2:=hid (HO.out.trans hO2);clear h2 hA2 hM2 hO2 hB2;go_wp2_with fail;clear hbi hbn ht ht2;go_loopg [6, 7, 8, 9] N (fun gk s6 _ _ _ wr => ∃ (D : Nat) (ks3 : List Nat), N <= D + gk /\ 0 < D /\ D <= 2000 /\ s6 = .int .i64 D /\ SoAt wr P mem bs d cap ks3 /\ ks3.length = N /\ Aside (Blks (plc bs) D 0 N ks3) /\ Mid 0 N ks ks3 /\ Only (fun g => g = d) w wr)
   case atStart => exact ⟨20, ks2, by omega, by omega, by omega, rfl, H2.out, HL2.out, HB2.out, HM2.out, HO2.out⟩
   case round =>
    obtain ⟨D, ks3, hD, hD0, hD2, rfl, h3, hl3, hB3, hM3, hO3⟩:=hrel;have H3:=hid h3;have HL3:=hid hl3;have HB3:=hid (show Blks (plc bs) D 0 N ks3 from hB3.out);have HM3:=hid hM3;have HO3:=hid hO3;clear h3 hl3 hB3 hM3 hO3;by_cases hDN : D < N
    ·cases gk with
     | zero => omega
     | succ g0 =>
      go_wp2_with fail;go_loopg [7, 8] N (fun gk s7 s8 wr => ∃ (t a : Nat) (ks4 : List Nat), N <= a + gk /\ a <= N /\ s7 = .int .i64 (a : Int) /\ s8 = .int .i64 ((a : Int) + 2 * (D : Int)) /\ SoAt wr P mem bs d cap ks4 /\ ks4.length = N /\ Aside (a = 2 * D * t /\ Blks (plc bs) (2 * D) 0 a ks4 /\ Blks (plc bs) D a N ks4) /\ Mid 0 N ks ks4 /\ Only (fun g => g = d) w wr)
      case atStart => exact ⟨0, 0, ks3, by omega, by omega, rfl, by congr 1; omega, H3.out, HL3.out, ⟨rfl, fun p q x y h1 h2 h3 => absurd h3 (by omega), HB3.out⟩, HM3.out, HO3.out⟩
      case round =>
       obtain ⟨t2, a2, ks4, ht, ht2, rfl, rfl, h4, hl4, hB4, hM4, hO4⟩:=hrel;have H4:=hid h4;have HL4:=hid hl4;have HB4:=hid hB4.out;have HM4:=hid hM4;have HO4:=hid hO4;clear h4 hl4 hB4 hM4 hO4;have asc1 : ∀ b, b <= a2 + D -> b <= N -> Asc (plc bs) a2 b ks4:=by
        intro b h1 h2;obtain ⟨e0, _, e2⟩:=HB4.out;have e3 : D * (2 * t2) = a2:=by rw [e0, <- Nat.mul_assoc, Nat.mul_comm D 2]
        have:=e2.asc (s:=2 * t2) (b:=b) (by omega) (by omega) h2;rw [e3] at this;exact this
       have asc2 : ∀ b, b <= a2 + 2 * D -> b <= N -> Asc (plc bs) (a2 + D) b ks4:=by
        intro b h1 h2;obtain ⟨e0, _, e2⟩:=HB4.out;have e3 : D * (2 * t2 + 1) = a2 + D:=by rw [Nat.mul_add, e0, <- Nat.mul_assoc, Nat.mul_comm D 2, Nat.mul_one]
        have:=e2.asc (s:=2 * t2 + 1) (b:=b) (by omega) (by omega) h2;rw [e3] at this;exact this
       have A1:=hid asc1;have A2:=hid asc2;clear asc1 asc2;by_cases hbn : a2 + 2 * D <= N
       ·cases gk with
        | zero => omega
        | succ g =>
         have hbi : (a2 : Int) + 2 * (D : Int) <= N:=by omega
         go_wp2_with fail;refine (sym_int P mem bs d cap a2 (a2 + D) (a2 + 2 * D) N _ _ _ ks4 _ H4.out HL4.out.symm rfl (by omega) (by omega) (by omega) (by omega) hbn (A1.out _ (Nat.le_refl _) (by omega)) (A2.out _ (Nat.le_refl _) hbn)).mono ?_;rintro e w5 ⟨rfl, ks5, h5, hA5, hM5, hO5⟩;go_wp2_with fail;go_roundg g
         case measure => omega
         case rel =>
          refine ⟨t2 + 1, a2 + 2 * D, ks5, by omega, by omega, by congr 1 <;> omega, by congr 1 <;> omega, h5, hM5.len.trans HL4.out, ⟨?_, ?_, ?_⟩, HM4.out.trans (hM5.mono (Nat.zero_le a2) (by omega)), HO4.out.trans hO5⟩
          ·rw [Nat.mul_add, Nat.mul_one, <- HB4.out.1]
          ·obtain ⟨e0, e1, _⟩:=HB4.out;rw [e0] at hM5 hA5 e1 ⊢;exact e1.add (by omega) hM5 hA5
          ·exact HB4.out.2.2.rest hM5 (by omega)
       ·have hbi : ¬ ((a2 : Int) + 2 * (D : Int) <= N):=by omega
        by_cases hmN : a2 + D < N
        ·have hmi : (a2 : Int) + (D : Int) < N:=by omega
         go_wp2_with fail;refine (sym_int P mem bs d cap a2 (a2 + D) N N _ _ _ ks4 _ H4.out HL4.out.symm rfl (by omega) rfl (by omega) (by omega) (Nat.le_refl _) (A1.out _ (Nat.le_refl _) (by omega)) (A2.out _ (by omega) (Nat.le_refl _))).mono ?_;rintro e w5 ⟨rfl, ks5, h5, hA5, hM5, hO5⟩;go_wp2_with fail;go_roundg g0
         case measure => omega
         case rel => refine ⟨2 * D, ks5, by omega, by omega, by omega, by congr 1; omega, h5, hM5.len.trans HL4.out, ?_, HM4.out.trans (hM5.mono (Nat.zero_le a2) (Nat.le_refl _)), HO4.out.trans hO5⟩;obtain ⟨e0, e1, _⟩:=HB4.out;rw [e0] at hM5 hA5 e1;exact e1.add (by omega) hM5 hA5
        ·have hmi : ¬ ((a2 : Int) + (D : Int) < N):=by omega
         go_wp2_with fail;go_roundg g0
         case measure => omega
         case rel => refine ⟨2 * D, ks4, by omega, by omega, by omega, by congr 1; omega, H4.out, HL4.out, ?_, HM4.out, HO4.out⟩;have hA5:=A1.out N (by omega) (Nat.le_refl _);obtain ⟨e0, e1, _⟩:=HB4.out;rw [e0] at hA5 e1;exact e1.add (by omega) (Mid.refl _ _ _) hA5
    ·go_wp2_with fail;go_end0
     exact ⟨rfl, ks3, H3.out, HB3.out.all (by omega), HM3.out, HO3.out⟩
def RetI (xs : List Int) (w : World) (e : Ending) (w' : World) : Prop:=∃ v, e = .returned v /\ OwnsI w' w.heap.size v xs /\ Below w.heap.size w w'
def refsOf (l : List Int) : List Int:=l.filterMap fun v => if (namM v).2 then some (namM v).1 else none
theorem refsOf_yes (l : List Int) (x : Int) (h : (namM x).2 = true) : refsOf (l ++ [x]) = refsOf l ++ [(namM x).1]:=by simp [refsOf, h]
theorem refsOf_no (l : List Int) (x : Int) (h : (namM x).2 = false) : refsOf (l ++ [x]) = refsOf l:=by simp [refsOf, h]
theorem refsOf_length (l : List Int) : (refsOf l).length <= l.length:=List.length_filterMap_le _ _
theorem namM_bd (o : Int) : 0 <= (namM o).1 /\ (namM o).1 < 1073741824:=by
 unfold namM;split
 ·simp
 ·simp only; omega
theorem refsOf_bd (l : List Int) : ∀ v ∈ refsOf l, 0 <= v /\ v < 1073741824:=by
 intro v hv;obtain ⟨x, _, hx⟩:=List.mem_filterMap.1 hv;split at hx
 ·injection hx with hx;subst hx;exact namM_bd x
 ·cases hx
theorem blk_ints (w : World) (x : Int) : Blk (w.alloc (.cells #[.int .i64 x] 3)) w.heap.size 3 (intCells [x]):=Blk.new w 3 _
theorem refs_any (o : Ob) (A : Option Addr) (ca : Nat) (B : Option Addr) (cb : Nat) (w : World) (hO : ObR w o A ca B cb) (hbig : o.ws.length <= 1048576) :
  Calls Tryz.prog 69 #[.agg (obV o A ca B cb)] w (RetI (refsM o) w):=by
 have hb:=(Below.refl w.heap.size w).alloc (Nat.le_refl _) (.cells (obV o A ca B cb) 29);have hI:=(hO.ints.alloc (.cells (obV o A ca B cb) 29)).alloc (.cells #[.int .i64 o.cls] 3);have hv : ∀ v ∈ o.cls :: o.ws, -9223372036854775808 <= v /\ v <= 9223372036854775807:=by
  intro v hv;rcases List.mem_cons.1 hv with rfl | h
  ·exact hO.cls
  ·exact hO.ints.vals v h
 have hna:=hO.na;have hM : refsM o = refsOf (o.cls :: o.ws):=rfl;rw [hM];obtain ⟨cls, kind, ws, bs⟩:=o;unfold obV at *;simp only at *;obtain ⟨p, hp⟩ : ∃ p, p = ws.length:=⟨_, rfl⟩;obtain ⟨q, hq⟩ : ∃ q, q = bs.length:=⟨_, rfl⟩;obtain ⟨L, hL⟩ : ∃ L, L = cls :: ws:=⟨_, rfl⟩;have hLl : L.length = p + 1:=by rw [hL, hp]; rfl
 rw [<- hL] at hv ⊢;rw [<- hp] at hbig;rw [<- hp, <- hq] at hb hI ⊢;have HP:=hid hp;have HI:=hid hI;have HNA:=hid hna;have HV:=hid hv;have HL:=hid hL;have HLL:=hid hLl;clear hp hq hI hna hv hL hLl hM hO;have ho : OwnsI ((w.alloc (.cells #[.int .i64 cls, .int .i64 kind, .slice A p ca, .slice B q cb] 29)).alloc (.cells #[.int .i64 cls] 3)) w.heap.size (.slice (some ⟨w.heap.size + 1, 0, none⟩) 1 1) [cls] :=
  OwnsI.of_blk (xs:=[cls]) (Blk.new2 w _ 3 _) (by omega) (by simp) (by omega) rfl rfl
 have hb1:=hb.alloc (by simp) (.cells #[.int .i64 cls] 3);have HO:=hid ho;clear ho hb;go_enter Tryz.func69, Tryz.ntmps69;go_wp2_with (at_builtin; refine append_ints rfl _ _ rfl w.heap.size _ [cls] rfl HO.out A ws _ _ HP.out rfl HI.out HNA.out ?c1 (by simp; omega) ?_)
 case c1 => have : [cls].length = 1:=rfl;omega
 intro v3 w3 hown3 hg3;have hb3:=hb1.grown hg3 (by simp; omega) (fun k hk => (HO.out.lt k hk).1);have hown3 : OwnsI w3 w.heap.size v3 L:=by rw [HL.out]; exact hown3
 obtain ⟨A3, cap3, rfl, hlc3, hc3, hI3, _⟩:=hown3.reads HV.out;have HI3:=hid hI3;rw [HLL.out] at hlc3 ⊢;have hsz3:=hb3.size;clear hown3 hg3 hb1 HO HI HNA hI3;go_wp2_with fail;go_loopg [3, 5, 6, 7, 15] (p + 1) (fun g s3 s5 s6 s7 s15 wr => ∃ j : Nat, j + g = p + 1 /\ s15 = .int .i64 j /\ OwnsI wr w3.heap.size s3 (refsOf (L.take j)) /\ Below w3.heap.size w3 wr)
 case atStart => exact ⟨0, by omega, rfl, World.ownsRow_nil _ _ _ _, Below.refl _ _⟩
 case round =>
  obtain ⟨j, hj, rfl, hown, hbr⟩:=hrel;have hsz:=hbr.size;cases gk with
  | zero =>
   have hjn : ¬ ((j : Int) < (p : Int) + 1):=by omega
   have e : L.take j = L:=take_of_length_le (by have:=HLL.out; omega);rw [e] at hown;go_wp2;go_ret;refine ⟨_, rfl, ?_, hb3.trans (hbr.mono hsz3)⟩;exact ⟨hown.1, hown.2.imp id (fun ⟨g, cap, cur, h1, h2, h3⟩ => ⟨g, cap, cur, h1, by omega, h3⟩)⟩
  | succ g =>
   have hjn : (j : Int) < (p : Int) + 1:=by omega
   obtain ⟨x, hx⟩ : ∃ x, L[j]? = some x:=⟨_, getElem?_eq_getElem (by have:=HLL.out; omega)⟩;obtain ⟨_, b, off, rfl, _, c0⟩:=(HI3.out.below hbr) j x hx;have hs:=take_snoc L j x hx;have hlen:=refsOf_length (L.take j);have hl2 : (L.take j).length <= j:=List.length_take_le _ _;have hl3 : (refsOf (L.take j)).length <= j:=by omega
   have hnm:=named_any x wr;have hyes:=refsOf_yes (L.take j) x;have hno:=refsOf_no (L.take j) x;have hbd:=namM_bd x;obtain ⟨r, hr⟩ : ∃ r, r = namM x:=⟨_, rfl⟩;rw [<- hr] at hnm hyes hno hbd;rw [<- hs] at hyes hno;obtain ⟨id, ok⟩:=r;simp only at hyes hno hbd;have HN:=hid hnm;clear hs hx hlen hl2 hr hnm;cases ok
   ·have HNO:=hid (hno rfl);clear hno hyes;go_wp2_with fail;refine HN.out.mono ?_;rintro e w' ⟨rfl, rfl⟩;go_wp2;go_roundg g
    case measure => omega
    case rel => exact ⟨j + 1, by omega, by go_num, by rw [HNO.out]; exact hown, hbr⟩
   ·have HY:=hid (hyes rfl);clear hno hyes;have hown2 : OwnsI (wr.alloc (.cells #[.int .i64 id] 3)) w3.heap.size _ _:=World.ownsRow.alloc hown (.cells #[.int .i64 id] 3);have hI2:=Ints.of_blk (blk_ints wr id) (by intro v hv; simp at hv; omega);have HI2:=hid hI2;have hbr2:=hbr.alloc hsz (.cells #[.int .i64 id] 3);clear hown hI2 hbr;go_wp2_with fail;refine HN.out.mono ?_;rintro e w' ⟨rfl, rfl⟩;go_wp2_with (at_builtin; refine append_ints rfl _ _ rfl w3.heap.size _ (refsOf (L.take j)) rfl hown2 _ [id] _ _ rfl rfl HI2.out (fun h => by cases h) ?c1 (by simp; omega) ?_)
    case c1 => have : [id].length = 1:=rfl;omega
    intro v5 w5 hown5 hg5;have hb5:=hbr2.grown hg5 (by simp; omega) (fun k hk => (hown2.lt k hk).1);have hown6 : OwnsI w5 w3.heap.size v5 (refsOf (L.take (j + 1))):=by rw [HY.out]; exact hown5
    clear hown5 hg5 hown2 hbr2 HI2;go_wp2;go_roundg g
    case measure => omega
    case rel => exact ⟨j + 1, by omega, by go_num, hown6, hb5⟩
def usedAt (bs : List Hb) (k : Nat) : Bool:=match bs[k]? with
 | some x => x.used
 | none => false
def usedTo (bs : List Hb) (n : Nat) : List Nat:=(List.range n).filter (usedAt bs)
def usedIx (bs : List Hb) : List Nat:=usedTo bs bs.length
theorem usedTo_succ (bs : List Hb) (n : Nat) : usedTo bs (n + 1) = usedTo bs n ++ (if usedAt bs n then [n] else []):=by
 unfold usedTo;rw [List.range_succ, List.filter_append];by_cases h : usedAt bs n = true
 ·simp [h]
 ·simp [h]
theorem usedTo_length (bs : List Hb) (n : Nat) : (usedTo bs n).length <= n:=by
 have:=List.length_filter_le (usedAt bs) (List.range n)
 simpa [usedTo] using this
theorem usedTo_lt (bs : List Hb) (n : Nat) : ∀ k ∈ usedTo bs n, k < n /\ usedAt bs k = true:=by intro k hk;have:=List.mem_filter.1 hk;exact ⟨List.mem_range.1 this.1, this.2⟩
def zI (ks : List Nat) : List Int:=ks.map fun (k : Nat) => (k : Int)
theorem zI_zs (ks : List Nat) : (zI ks).map (Value.int .i64) = zs ks:=by simp [zI, zs]
theorem blocks_any (P : HpP) (mem : List Int) (bs : List Hb) (w : World) (h : HpMem w P mem bs) (hP : ∀ k, P.set k -> k < w.heap.size) (hc : bs.length <= 1000) :
  Calls Tryz.prog 36 #[.pointer (some ⟨P.h, 0, none⟩)] w fun e w' => ∃ v, e = .returned v /\ OwnsI w' w.heap.size v (zI (usedIx bs)) /\ Below w.heap.size w w':=by
 have c1:=h.head.cell 1;simp only [qTa, qTb, qTc, HpP.row] at c1;obtain ⟨A, hA⟩ : ∃ A, A = P.b.map fun g => (⟨g, 0, none⟩ : Addr):=⟨_, rfl⟩;rw [<- hA] at c1;obtain ⟨L, hL⟩ : ∃ L, L = bs.length:=⟨_, rfl⟩;rw [<- hL] at c1 hc;have H:=hid h;have HL:=hid hL;have HP:=hid hP;clear h hA hL hP;go_enter Tryz.func36, Tryz.ntmps36;go_wp2_with fail;go_loopg [3, 12] L (fun gk s3 s12 wr => ∃ (j : Nat), j + gk = L /\ s12 = .int .i64 j /\ OwnsI wr w.heap.size s3 (zI (usedTo bs j)) /\ Below w.heap.size w wr)
 case atStart => exact ⟨0, by omega, rfl, World.ownsRow_nil _ _ _ _, Below.refl _ _⟩
 case round =>
  obtain ⟨j, hj, rfl, ho, hb⟩:=hrel;cases gk with
  | zero =>
   have hjn : ¬ ((j : Int) < (L : Int)):=by omega
   go_wp2_with fail;go_ret;have e : j = bs.length:=by have:=HL.out; omega
   rw [e] at ho;exact ⟨_, rfl, ho, hb⟩
  | succ g =>
   have hjn : (j : Int) < (L : Int):=by omega
   have hjb : j < bs.length:=by have:=HL.out; omega
   have hx:=getElem?_eq_getElem hjb;have h2:=H.out.only (only_of hb (fun _ => False)) (fun _ _ h => h);have hh:=hpHas_in P mem bs j bs[j] wr h2 hx;have hu : usedAt bs j = bs[j].used:=by unfold usedAt; rw [hx]
   have hs:=usedTo_succ bs j;have hlen:=usedTo_length bs j;obtain ⟨u, huu⟩ : ∃ u, u = bs[j].used:=⟨_, rfl⟩;rw [<- huu] at hh hu;rw [hu] at hs;have HH:=hid hh;have HS:=hid hs;have HLN:=hid hlen;have HB:=hid hb;have HO:=hid ho;have hz:=hb.size;clear hh hs hu huu hx h2 ho hb hlen;cases u
   ·go_wp2_with fail;refine HH.out.mono ?_;rintro e w2 ⟨rfl, rfl⟩;go_wp2_with fail;go_roundg g
    case measure => omega
    case rel => refine ⟨j + 1, by omega, by go_num, ?_, HB.out⟩;have:=HS.out;simp only [Bool.false_eq_true, if_false, List.append_nil] at this;rw [this]; exact HO.out
   ·have hown2 : OwnsI (wr.alloc (.cells #[.int .i64 (j : Int)] 3)) w.heap.size _ _:=World.ownsRow.alloc HO.out (.cells #[.int .i64 (j : Int)] 3);have hI2:=Ints.of_blk (blk_ints wr (j : Int)) (by intro v hv; simp at hv; omega);have HI2:=hid hI2;have hbr2:=HB.out.alloc hz (.cells #[.int .i64 (j : Int)] 3);have hl : (zI (usedTo bs j)).length <= 1000:=by have:=HLN.out; simp [zI]; omega
    clear hI2;go_wp2_with fail;refine HH.out.mono ?_;rintro e w2 ⟨rfl, rfl⟩;go_wp2_with (at_builtin; refine append_ints rfl _ _ rfl w.heap.size _ (zI (usedTo bs j)) rfl hown2 _ [(j : Int)] _ _ rfl rfl HI2.out (fun h => by cases h) ?c1 (by simp; omega) ?_)
    case c1 => exact Nat.le_trans (Nat.add_le_add_right hl _) (by simp)
    intro v5 w5 hown5 hg5;have hb5:=hbr2.grown hg5 (by simp; omega) (fun k hk => (hown2.lt k hk).1);have hown6 : OwnsI w5 w.heap.size v5 (zI (usedTo bs (j + 1))):=by
     have:=HS.out;simp only [if_true] at this;rw [this]
     simpa [zI] using hown5
    clear hown5 hg5 hown2 hbr2 HI2;go_wp2;go_roundg g
    case measure => omega
    case rel => exact ⟨j + 1, by omega, by go_num, hown6, hb5⟩
theorem ins_nil (V : Value) (w : World) : Calls Tryz.prog 227 #[.slice none 0 0, .int .i64 0, .int .i64 0, V] w fun e w' => e = .returned (.tuple #[]) /\ w = w':=by
 go_enter Tryz.func227, Tryz.ntmps227;go_wp2_with fail;go_loopg [8] 0 (fun _ s8 wr => s8 = .int .i64 1 /\ w = wr)
 case atStart => exact ⟨rfl, rfl⟩
 case round =>
  obtain ⟨rfl, rfl⟩:=hrel;go_wp2_with fail;go_end0
  exact ⟨rfl, rfl⟩
theorem stable_nil (V : Value) (w : World) : Calls Tryz.prog 226 #[.slice none 0 0, .int .i64 0, V] w fun e w' => e = .returned (.tuple #[]) /\ w = w':=by
 go_enter Tryz.func226, Tryz.ntmps226;go_wp2_with fail;go_loopg [7, 8] 0 (fun _ s7 s8 wr => s7 = .int .i64 0 /\ s8 = .int .i64 20 /\ w = wr)
 case atStart => exact ⟨rfl, rfl, rfl⟩
 case round =>
  obtain ⟨rfl, rfl, rfl⟩:=hrel;go_wp2_with fail;refine (ins_nil V _).mono ?_;rintro e w2 ⟨rfl, rfl⟩;go_wp2_with fail;go_loopg [6] 0 (fun _ s6 wr => s6 = .int .i64 20 /\ w = wr)
  case atStart => exact ⟨rfl, rfl⟩
  case round =>
   obtain ⟨rfl, rfl⟩:=hrel;go_wp2_with fail;go_end0
   exact ⟨rfl, rfl⟩
theorem sortNil (V : Value) (w : World) : Calls Tryz.prog 224 #[.slice none 0 0, V] w fun e w' => e = .returned (.tuple #[]) /\ w = w':=by
 go_enter Tryz.func224, Tryz.ntmps224;go_wp2_with fail;refine (stable_nil V _).mono ?_;rintro e w2 ⟨rfl, rfl⟩;go_wp2_with fail;go_end0
 exact ⟨rfl, rfl⟩
theorem sortAny (P : HpP) (mem : List Int) (bs : List Hb) (d cap N : Nat) (ks : List Nat) (w : World) (h : SoAt w P mem bs d cap ks) (hN : N = ks.length) :
  Calls Tryz.prog 224 #[.slice (some ⟨d, 0, none⟩) N cap, .func (.func 225) #[.pointer (some ⟨P.h, 0, none⟩)] #[]] w (SymPost P mem bs d cap 0 N ks w):=by
 have H:=hid (stable_any P mem bs d cap N ks w h hN);clear h hN;go_enter Tryz.func224, Tryz.ntmps224;go_wp2_with fail;refine H.out.mono ?_;rintro e w2 ⟨rfl, hr⟩;go_wp2_with fail;go_end0
 exact ⟨rfl, hr⟩
structure Ordd (bs : List Hb) (ks : List Nat) : Prop where
 perm : ks.Perm (usedIx bs)
 asc : Asc (plc bs) 0 ks.length ks
theorem Ordd.lt {bs : List Hb} {ks : List Nat} (h : Ordd bs ks) : ∀ k ∈ ks, k < bs.length /\ usedAt bs k = true:=fun k hk => usedTo_lt bs bs.length k (h.perm.mem_iff.1 hk)
theorem Ordd.len {bs : List Hb} {ks : List Nat} (h : Ordd bs ks) : ks.length <= bs.length:=by rw [h.perm.length_eq]; exact usedTo_length bs bs.length
def OrdPost (bs : List Hb) (w : World) (e : Ending) (w' : World) : Prop:=∃ v ks, e = .returned v /\ Ordd bs ks /\ OwnsI w' w.heap.size v (zI ks) /\ Below w.heap.size w w'
theorem order_any (P : HpP) (mem : List Int) (bs : List Hb) (w : World) (h : HpMem w P mem bs) (hP : ∀ k, P.set k -> k < w.heap.size) (hc : bs.length <= 1000) (hs : ∀ x ∈ bs, x.at_ <= 32768) :
  Calls Tryz.prog 223 #[.pointer (some ⟨P.h, 0, none⟩)] w (OrdPost bs w):=by
 have HB:=hid (blocks_any P mem bs w h hP hc);have H:=hid h;have HP:=hid hP;have HS:=hid hs;have HC:=hid hc;clear h hP hs hc;go_enter Tryz.func223, Tryz.ntmps223;go_wp2_with fail;refine HB.out.mono ?_;rintro e w1 ⟨v, rfl, ho, hb⟩;have hl:=usedTo_length bs bs.length;rcases ho.2 with ⟨rfl, h0⟩ | ⟨g, cap, cur, rfl, hg, hh, h1, h2, h3, h4⟩
 ·have HO:=hid ho;have HBB:=hid hb;clear ho hb;have hn : usedIx bs = []:=by
   have : (zI (usedIx bs)).length = 0:=h0
   simpa [zI] using this
  have HN:=hid hn;clear h0 hn;go_wp2_with fail;refine (sortNil _ _).mono ?_;rintro e w2 ⟨rfl, rfl⟩;go_wp2_with fail;go_ret;refine ⟨_, [], rfl, ⟨by rw [HN.out], fun p q x y _ _ h => absurd h (by simp)⟩, ?_, HBB.out⟩;have:=HO.out;rw [HN.out] at this;exact this
 ·have hlz : (zI (usedIx bs)).length = (usedIx bs).length:=by simp [zI]
  rw [hlz] at h1 h4;have hS : SoAt w1 P mem bs g cap (usedIx bs):=by
   refine ⟨H.out.only (only_of hb (fun _ => False)) (fun _ _ h => h), ?_, fun k hk => (usedTo_lt bs bs.length k hk).1, fun hk => ?_, HS.out, ?_⟩
   ·refine ⟨by simp [zs], .inr ⟨g, cap, cur, rfl, Nat.zero_le _, hh, h1, h2, h3, ?_⟩⟩;rw [<- zI_zs]; exact h4
   ·have:=HP.out g hk;omega
   ·have:=HC.out;exact Nat.le_trans hl this
  have HSo:=hid (sortAny P mem bs g cap (usedIx bs).length (usedIx bs) w1 hS rfl);have HBB:=hid hb;rw [hlz];obtain ⟨n, hn⟩ : ∃ n, n = (usedIx bs).length:=⟨_, rfl⟩;rw [<- hn] at HSo ⊢;have HN:=hid hn;clear ho hh h1 h2 h3 h4 hS hb hl hlz hn;go_wp2_with fail;refine HSo.out.mono ?_;rintro e w2 ⟨rfl, ks, hk, hA, hM, hO⟩;go_wp2_with fail;go_ret;have hlen : ks.length = n:=by rw [hM.len]; exact HN.out.symm
  refine ⟨_, ks, rfl, ⟨hM.perm, by rw [hlen]; exact hA⟩, ?_, ?_⟩
  ·rcases hk.row.2 with ⟨e, _⟩ | ⟨g', cap', cur', e, _, h2, h3, h4, h5, h6⟩
   ·simp at e
   ·simp at e;obtain ⟨rfl, rfl⟩:=e;have e2 : (zI ks).length = ks.length:=by simp [zI]
    refine ⟨by rw [e2]; simp [zI], .inr ⟨g, cap, cur', by rw [e2, hlen]; rfl, hg, h2, by rw [e2]; exact h3, h4, h5, ?_⟩⟩;rw [e2, zI_zs]; exact h6
  ·exact HBB.out.trans (hO.below HBB.out.size (fun k hk => by rw [hk]; exact hg))
def Real (bs : List Hb) (k : Nat) (x : Hb) : Prop:=bs[k]? = some x /\ x.used = true /\ 0 < x.n
def Packed (bs : List Hb) : Prop:=∀ k x t, Real bs k x -> t < x.at_ -> ∃ j y, Real bs j y /\ y.at_ <= t /\ t < y.at_ + y.n
structure GapsOK (bs : List Hb) (N : Nat) (gl : List (Nat × Nat)) : Prop where
 fit : ∀ g ∈ gl, 0 < g.2 /\ g.1 + g.2 <= N
 free : ∀ g ∈ gl, ∀ k x, Real bs k x -> x.at_ + x.n <= g.1 \/ g.1 + g.2 <= x.at_
 one : Packed bs -> gl.length <= 1
 few : gl.length <= bs.length + 1
structure GInv (bs : List Hb) (N : Nat) (pre : List Nat) (G : List (Nat × Nat)) (e : Nat) : Prop where
 ends : ∀ k ∈ pre, ∀ x, Real bs k x -> x.at_ + x.n <= e
 in_ : e <= N
 fit : ∀ g ∈ G, 0 < g.2 /\ ∃ k ∈ pre, ∃ x, Real bs k x /\ g.1 + g.2 = x.at_
 free : ∀ g ∈ G, ∀ k ∈ pre, ∀ x, Real bs k x -> x.at_ + x.n <= g.1 \/ g.1 + g.2 <= x.at_
 few : G.length <= pre.length
theorem GInv.start (bs : List Hb) (N : Nat) : GInv bs N [] [] 0:=⟨by simp, by omega, by simp, by simp, by simp⟩
structure Lay (bs : List Hb) (N : Nat) : Prop where
 fit : ∀ x ∈ bs, x.at_ + x.n <= N
 disj : ∀ (i j : Nat) (x y : Hb), bs[i]? = some x -> bs[j]? = some y -> i ≠ j -> x.off y
theorem HpAt.lay {w : World} {P : HpP} {mem : List Int} {bs : List Hb} (h : HpAt w P mem bs) : Lay bs mem.length:=⟨h.fit, h.disj⟩
theorem plc_of {bs : List Hb} {k : Nat} {x : Hb} (h : bs[k]? = some x) : plc bs k = x.at_:=by unfold plc; rw [h]
theorem GInv.behind {bs : List Hb} {N : Nat} {pre post : List Nat} {k : Nat} (hL : Lay bs N) (hA : Asc (plc bs) 0 (pre ++ k :: post).length (pre ++ k :: post)) (hn : (pre ++ k :: post).Nodup)
  {x : Hb} (hx : Real bs k x) {j : Nat} (hj : j ∈ pre) {y : Hb} (hy : Real bs j y) : y.at_ + y.n <= x.at_:=by
 obtain ⟨i, hi⟩:=List.getElem?_of_mem hj;have hil:=(List.getElem?_eq_some_iff.1 hi).1;have h1 : (pre ++ k :: post)[i]? = some j:=by rw [getElem?_append_left hil]; exact hi
 have h2 : (pre ++ k :: post)[pre.length]? = some k:=by simp
 have hle:=hA i pre.length j k (Nat.zero_le _) hil (by simp) h1 h2;rw [plc_of hy.1, plc_of hx.1] at hle;have hne : j ≠ k:=by rintro rfl;have:=(List.nodup_append.1 hn).2.2 j hj j (by simp);exact this rfl
 have:=hL.disj j k y x hy.1 hx.1 hne hy.2.1 hx.2.1 hy.2.2 hx.2.2;have:=hx.2.2;omega
theorem GInv.skip {bs : List Hb} {N : Nat} {pre : List Nat} {G : List (Nat × Nat)} {e k : Nat} (h : GInv bs N pre G e) {x : Hb} (hx : bs[k]? = some x) (h0 : x.n = 0) : GInv bs N (pre ++ [k]) G e:=by
 have key : ∀ j ∈ pre ++ [k], ∀ y, Real bs j y -> j ∈ pre:=by
  intro j hj y hy;rcases List.mem_append.1 hj with hj | hj
  ·exact hj
  ·simp at hj;subst hj;have:=hy.1.symm.trans hx;cases this
   have:=hy.2.2;omega
 refine ⟨fun j hj y hy => h.ends j (key j hj y hy) y hy, h.in_, fun g hg => ?_, fun g hg j hj y hy => h.free g hg j (key j hj y hy) y hy, by have:=h.few; simp; omega⟩;obtain ⟨h1, j, hj, y, hy, e⟩:=h.fit g hg;exact ⟨h1, j, List.mem_append_left _ hj, y, hy, e⟩
theorem GInv.step {bs : List Hb} {N : Nat} {pre post : List Nat} {G : List (Nat × Nat)} {e k : Nat} (h : GInv bs N pre G e) (hL : Lay bs N) (hA : Asc (plc bs) 0 (pre ++ k :: post).length (pre ++ k :: post)) (hn : (pre ++ k :: post).Nodup)
  {x : Hb} (hx : Real bs k x) :
  GInv bs N (pre ++ [k]) (if e < x.at_ then G ++ [(e, x.at_ - e)] else G) (x.at_ + x.n):=by
 have hb:=fun {j : Nat} (hj : j ∈ pre) {y : Hb} (hy : Real bs j y) => GInv.behind hL hA hn hx hj hy;have hx0:=hx.2.2;have hfit:=hL.fit x (mem_of_getElem? hx.1);have hk : ∀ y, Real bs k y -> y = x:=by intro y hy;have:=hy.1.symm.trans hx.1;cases this; rfl
 refine ⟨?_, hfit, ?_, ?_, ?_⟩
 ·intro j hj y hy;rcases List.mem_append.1 hj with hj | hj
  ·have:=hb hj hy; omega
  ·simp at hj; subst hj; rw [hk y hy]; exact Nat.le_refl _
 ·intro g hg;have old : g ∈ G -> 0 < g.2 /\ ∃ k_1 ∈ pre ++ [k], ∃ x, Real bs k_1 x /\ g.1 + g.2 = x.at_:=fun hg => by obtain ⟨h1, j, hj, y, hy, e⟩:=h.fit g hg;exact ⟨h1, j, List.mem_append_left _ hj, y, hy, e⟩
  split at hg
  ·rcases List.mem_append.1 hg with hg | hg
   ·exact old hg
   ·simp at hg;subst hg;exact ⟨by simp; omega, k, by simp, x, hx, by simp; omega⟩
  ·exact old hg
 ·intro g hg j hj y hy;have old : g ∈ G -> y.at_ + y.n <= g.1 \/ g.1 + g.2 <= y.at_:=fun hg => by
   rcases List.mem_append.1 hj with hj | hj
   ·exact h.free g hg j hj y hy
   ·simp at hj; subst hj;rw [hk y hy];obtain ⟨h1, j2, hj2, y2, hy2, e2⟩:=h.fit g hg;have:=hb hj2 hy2;omega
  split at hg
  ·rcases List.mem_append.1 hg with hg | hg
   ·exact old hg
   ·simp at hg;subst hg;rcases List.mem_append.1 hj with hj | hj
    ·exact .inl (h.ends j hj y hy)
    ·simp at hj; subst hj; rw [hk y hy]; right; simp; omega
  ·exact old hg
 ·have:=h.few;split <;> simp <;> omega
theorem GInv.done {bs : List Hb} {N : Nat} {ks : List Nat} {G : List (Nat × Nat)} {e : Nat} (h : GInv bs N ks G e) (hL : Lay bs N) (hO : Ordd bs ks) : GapsOK bs N (if e < N then G ++ [(e, N - e)] else G):=by
 have hmem : ∀ k x, Real bs k x -> k ∈ ks:=by intro k x hx;refine hO.perm.mem_iff.2 (List.mem_filter.2 ⟨List.mem_range.2 (List.getElem?_eq_some_iff.1 hx.1).1, ?_⟩);unfold usedAt;rw [hx.1]; exact hx.2.1
 have hG0 : Packed bs -> G = []:=by
  intro hp;cases G with
  | nil => rfl
  | cons g G => obtain ⟨h1, k, hk, x, hx, e1⟩:=h.fit g (by simp);obtain ⟨j, y, hy, h2, h3⟩:=hp k x g.1 hx (by omega);have:=h.free g (by simp) j (hmem j y hy) y hy;omega
 refine ⟨?_, ?_, ?_, ?_⟩
 ·intro g hg;have old : g ∈ G -> 0 < g.2 /\ g.1 + g.2 <= N:=fun hg => by obtain ⟨h1, k, hk, x, hx, e1⟩:=h.fit g hg;have:=hL.fit x (mem_of_getElem? hx.1);omega
  split at hg
  ·rcases List.mem_append.1 hg with hg | hg
   ·exact old hg
   ·simp at hg; subst hg; simp; omega
  ·exact old hg
 ·intro g hg k x hx;have old : g ∈ G -> x.at_ + x.n <= g.1 \/ g.1 + g.2 <= x.at_:=fun hg => h.free g hg k (hmem k x hx) x hx;split at hg
  ·rcases List.mem_append.1 hg with hg | hg
   ·exact old hg
   ·simp at hg; subst hg;exact .inl (h.ends k (hmem k x hx) x hx)
  ·exact old hg
 ·intro hp;rw [hG0 hp];split <;> simp
 ·have h1:=h.few;have h2:=hO.len;split <;> simp <;> omega
theorem usedIx_nodup (bs : List Hb) : (usedIx bs).Nodup:=List.nodup_range.filter _
def prCells (l : List (Nat × Nat)) : List Value:=l.flatMap fun p => [.int .i64 (p.1 : Int), .int .i64 (p.2 : Int)]
theorem prCells_append (a b : List (Nat × Nat)) : prCells (a ++ b) = prCells a ++ prCells b:=by simp [prCells]
theorem prCells_get (l : List (Nat × Nat)) (i : Nat) (x : Nat × Nat) (h : l[i]? = some x) : (prCells l)[i * 2]? = some (.int .i64 (x.1 : Int)) /\ (prCells l)[i * 2 + 1]? = some (.int .i64 (x.2 : Int)):=by
 induction l generalizing i with
 | nil => simp at h
 | cons y l ih =>
  have e0 : prCells (y :: l) = .int .i64 (y.1 : Int) :: .int .i64 (y.2 : Int) :: prCells l:=rfl;cases i with
  | zero => simp at h; subst h; rw [e0]; simp
  | succ i =>
   simp at h;have:=ih i h;rw [e0];have e : (i + 1) * 2 = i * 2 + 1 + 1:=by omega
   rw [e]
   simpa using this
def OwnsP (w : World) (B : Nat) (v : Value) (l : List (Nat × Nat)) : Prop:=w.ownsRow B 318 2 v l.length (prCells l)
theorem Tryz.info318 : (Tryz.prog.info? 318).map (fun i => (i.zero, i.size, i.bytes)) = some (some (.agg #[.int .i64 0, .int .i64 0]), 2, 16):=by kernel_rfl
theorem append_pair {w : World} {ops : Array Oper} {rest : List Oper} {o : Oper} {a : Act} {Q : Exit -> Act -> World -> Prop} (hgd : o.guard = none) (s x : Operand)
  (ho : o.op = .call { callee:=.builtin .append, args:=#[s, x], argTypes:=#[316, 316] })
  (base : Nat) (v : Value) (acc : List (Nat × Nat)) (hs : a.eval s = v) (hown : OwnsP w base v acc) (g : Nat) (p q : Nat) (p' q' : Int) (hp : p' = p) (hq : q' = q) (hx : a.eval x = .slice (some ⟨g, 0, none⟩) 1 1) (hB : Blk w g 318 #[.int .i64 p', .int .i64 q'])
  (hbig : acc.length <= 8388608) (hbase : base <= w.heap.size)
  (h : ∀ v' w', OwnsP w' base v' (acc ++ [(p, q)]) -> w.grownBy w' v.ownBlock -> wpList Tryz.prog ops Q rest (a.put o.dst v') w') : wpList Tryz.prog ops Q (o :: rest) a w:=by
 subst hp; subst hq;obtain ⟨i0, hi, hz0, hz1, hz2⟩:=info_parts Tryz.info318;refine wpList_append_own _ hgd s x 316 ho base 318 i0 (.agg #[.int .i64 0, .int .i64 0]) 2 16 Tryz.underlying316 hi hz0 hz1 hz2 rfl (by decide) v _ _ hs hown ⟨g, 0, none⟩ 1 1 [.int .i64 (p : Int), .int .i64 (q : Int)] hx rfl hB.row ?_ (by unfold maxLen; omega) (by omega) hbase ?_
 ·intro u hu;simp at hu;rcases hu with rfl | rfl <;> rfl
 ·intro v' w' h1 h2 _;refine h v' w' ?_ h2;unfold OwnsP;rw [length_append, prCells_append];exact h1
theorem OwnsP.mono {w : World} {B B' : Nat} {v : Value} {l : List (Nat × Nat)} (h : OwnsP w B v l) (hB : B' <= B) : OwnsP w B' v l :=
 ⟨h.1, h.2.imp id (fun ⟨g, cap, cur, h1, h2, h3⟩ => ⟨g, cap, cur, h1, Nat.le_trans hB h2, h3⟩)⟩
def GapPost (bs : List Hb) (N : Nat) (w : World) (e : Ending) (w' : World) : Prop:=∃ v gl, e = .returned v /\ GapsOK bs N gl /\ OwnsP w' w.heap.size v gl /\ Below w.heap.size w w'
theorem gaps_any (P : HpP) (mem : List Int) (bs : List Hb) (w : World) (h : HpAt w P mem bs) :
  Calls Tryz.prog 220 #[.pointer (some ⟨P.h, 0, none⟩)] w (GapPost bs mem.length w):=by
 have hsm : ∀ x ∈ bs, x.at_ <= 32768:=fun x hx => by have:=h.fit x hx; have:=h.size; omega
 have HOR:=hid (order_any P mem bs w h.base h.lt h.count hsm);have H:=hid h;have hN:=h.size;obtain ⟨N, hNN⟩ : ∃ N, N = mem.length:=⟨_, rfl⟩;rw [<- hNN] at hN ⊢;have HN:=hid hNN;have hc:=h.count;clear h hsm hNN;go_enter Tryz.func220, Tryz.ntmps220;go_wp2_with fail;refine HOR.out.mono ?_;rintro e w1 ⟨v, ks, rfl, hord, ho, hb⟩;have hkl:=hord.len;have hw : ∀ k ∈ zI ks, -9223372036854775808 <= k /\ k <= 9223372036854775807:=by intro k hk;simp [zI] at hk;obtain ⟨n, hn, rfl⟩:=hk;have:=(hord.lt n hn).1;omega
 obtain ⟨A, cap, rfl, h1, h2, h3, h4⟩:=ho.reads hw;have hlz : (zI ks).length = ks.length:=by simp [zI]
 rw [hlz];rw [hlz] at h1;obtain ⟨n, hn⟩ : ∃ n, n = ks.length:=⟨_, rfl⟩;rw [<- hn] at h1 hkl ⊢;have HK:=hid hn;have HO:=hid ho;have HI:=hid h3;have HB:=hid hb;have HD:=hid hord;have hz:=hb.size;have hn9 : (n : Int) <= 1000:=by omega
 clear hn ho h3 hb hord hw h4 hlz;go_wp2_with fail;go_loopg [3, 4, 11] n (fun gk s3 s4 s11 wr => ∃ (j e : Nat) (G : List (Nat × Nat)), j + gk = n /\ s11 = .int .i64 j /\ s4 = .int .i64 e /\ e <= N /\ OwnsP wr w1.heap.size s3 G /\ Below w1.heap.size w1 wr /\ Aside (GInv bs N (ks.take j) G e))
 case atStart => exact ⟨0, 0, [], by omega, rfl, rfl, by omega, World.ownsRow_nil _ _ _ _, Below.refl _ _, GInv.start _ _⟩
 case round =>
  obtain ⟨j, e, G, hj, rfl, rfl, heN, hoG, hbr, hG⟩:=hrel;have hAs:=HD.out.asc;have hnd : ks.Nodup:=HD.out.perm.nodup_iff.2 (usedIx_nodup bs);cases gk with
  | zero =>
   have hjn : ¬ ((j : Int) < (n : Int)):=by omega
   have hG2 : GInv bs N ks G e:=by
    have:=hG.out
    rwa [take_of_length_le (by have:=HK.out; omega)] at this
   have hfew:=hG2.few;have hGO:=hG2.done (HN.out ▸ H.out.lay) HD.out;have HGO:=hid hGO;have h2:=H.out.only (only_of (HB.out.trans (hbr.mono hz)) (fun _ => False)) (fun _ _ h => h);have c0:=h2.head.cell 0;simp only [qTa, qTb] at c0;rw [<- HN.out] at c0;have hGl : G.length <= 1000:=by have:=HK.out; omega
   have HBR:=hid hbr;have HOG:=hid hoG;have hzr:=hbr.size;clear hG2 hGO hAs hnd hG h2 hbr hfew;by_cases heN2 : e < N
   ·have hoG2 : OwnsP (wr.alloc (.cells #[.int .i64 (e : Int), .int .i64 ((N : Int) - (e : Int))] 318)) w1.heap.size _ _:=World.ownsRow.alloc HOG.out (.cells #[.int .i64 (e : Int), .int .i64 ((N : Int) - (e : Int))] 318);have hbr2:=HBR.out.alloc hzr (.cells #[.int .i64 (e : Int), .int .i64 ((N : Int) - (e : Int))] 318);have b1:=Blk.new wr 318 #[.int .i64 (e : Int), .int .i64 ((N : Int) - (e : Int))];clear hoG;go_wp2_with (at_builtin; refine append_pair rfl _ _ rfl w1.heap.size _ G rfl hoG2 wr.heap.size e (N - e) _ _ rfl ?c0 rfl b1 ?c1 ?c2 ?_)
    case c0 => omega
    case c1 => omega
    case c2 => first | omega | (simp; omega) | exact hbr2.size
    intro v5 w5 hown5 hg5;have hb5:=hbr2.grown hg5 (by simp; omega) (fun k hk => (hoG2.lt k hk).1);go_wp2_with fail;go_ret;refine ⟨_, _, rfl, HGO.out, ?_, HB.out.trans (hb5.mono hz)⟩;rw [if_pos heN2];exact OwnsP.mono hown5 hz
   ·clear hoG;go_wp2_with fail;go_ret;refine ⟨_, _, rfl, HGO.out, ?_, HB.out.trans (HBR.out.mono hz)⟩;rw [if_neg heN2];exact OwnsP.mono HOG.out hz
  | succ g =>
   have hjn : (j : Int) < (n : Int):=by omega
   have hjk : j < ks.length:=by have:=HK.out; omega
   obtain ⟨k, hk⟩ : ∃ k, k = ks[j]:=⟨_, rfl⟩;have hkj : ks[j]? = some k:=by rw [hk]; exact getElem?_eq_getElem hjk
   have hkm : k ∈ ks:=mem_of_getElem? hkj;obtain ⟨hkb, hku⟩:=HD.out.lt k hkm;have hx:=getElem?_eq_getElem hkb;have hxu : bs[k].used = true:=by unfold usedAt at hku; rw [hx] at hku; exact hku
   obtain ⟨x, hxx⟩ : ∃ x, x = bs[k]:=⟨_, rfl⟩;rw [<- hxx] at hx hxu;have hxf:=H.out.fit x (mem_of_getElem? hx);have h2:=H.out.base.only (only_of (HB.out.trans (hbr.mono hz)) (fun _ => False)) (fun _ _ h => h);obtain ⟨gb, hgb⟩:=h2.gets hx;obtain ⟨d0, d1, d2⟩:=h2.look hx hgb;have c1:=h2.head.cell 1;simp only [qTa, qTb, qTc, HpP.row, hgb, Option.map_some] at c1;obtain ⟨_, b0, off0, rfl, _, i0⟩:=(HI.out.below hbr) j (k : Int) (by simp [zI, hkj]);have hsplit : ks = ks.take j ++ k :: ks.drop (j + 1):=by rw [hk, List.getElem_cons_drop, List.take_append_drop]
   have htk : ks.take (j + 1) = ks.take j ++ [k]:=by rw [List.take_add_one, hkj]; rfl
   have hGS : GInv bs N (ks.take j) G e:=hG.out;have hfew:=hGS.few;have hGl : G.length <= 1000:=by rw [List.length_take] at hfew; omega
   have hzr:=hbr.size;have CELL:=hid (⟨d0, d1, d2⟩ : wr.cell? ⟨gb, k * 3, none⟩ = some (.int .i64 (x.at_ : Int)) /\ wr.cell? ⟨gb, k * 3 + 1, none⟩ = some (.int .i64 (x.n : Int)) /\ wr.cell? ⟨gb, k * 3 + 2, none⟩ = some (.bool x.used));have HX:=hid hx;have HXU:=hid hxu;have HGS:=hid hGS;have HSP:=hid hsplit;have HTK:=hid htk;have HAS:=hid hAs;have HND:=hid hnd;have HOG:=hid hoG;have HBR:=hid hbr;obtain ⟨a, ha⟩ : ∃ a, a = x.at_:=⟨_, rfl⟩;obtain ⟨q, hq⟩ : ∃ a, a = x.n:=⟨_, rfl⟩;obtain ⟨L, hL⟩ : ∃ L, L = bs.length:=⟨_, rfl⟩;rw [<- ha] at d0 hxf;rw [<- hq] at d1 hxf;rw [<- hL] at c1 hkb hc;rw [hxu] at d2;rw [<- HN.out] at hxf;have HA:=hid ha;have HQ:=hid hq;have hoG2 : OwnsP (wr.alloc (.cells #[.int .i64 (a : Int), .int .i64 (q : Int), .bool true] 141)) w1.heap.size _ _:=World.ownsRow.alloc hoG (.cells #[.int .i64 (a : Int), .int .i64 (q : Int), .bool true] 141);have hbr2:=hbr.alloc hzr (.cells #[.int .i64 (a : Int), .int .i64 (q : Int), .bool true] 141);have b0:=Blk.new wr 141 #[.int .i64 (a : Int), .int .i64 (q : Int), .bool true];have p0:=b0.cell 0;have p1:=b0.cell 1;simp only [qTa, qTb, qTc] at p0 p1;clear hxx hkj hk hjk hkm hku hx hxu hgb h2 hsplit htk hAs hnd hG hGS hfew hoG hbr ha hq hL;by_cases hq0 : q = 0
   ·subst hq0;go_wp2_with fail;go_roundg g
    case measure => omega
    case rel =>
     refine ⟨j + 1, e, G, by omega, by go_num, rfl, heN, hoG2, hbr2, ?_⟩;show GInv bs N (ks.take (j + 1)) G e
     rw [HTK.out];exact HGS.out.skip HX.out HQ.out.symm
   ·have hq1 : 0 < q:=by omega
    clear hq0;have hreal : Real bs k x:=⟨HX.out, HXU.out, by rw [<- HQ.out]; exact hq1⟩;have hst:=HGS.out.step (N:=N) (post:=ks.drop (j + 1)) (HN.out ▸ H.out.lay) (by rw [<- HSP.out]; exact HAS.out) (by rw [<- HSP.out]; exact HND.out) hreal;rw [<- HTK.out, <- HA.out, <- HQ.out] at hst;have HST:=hid hst;clear hst hreal;by_cases hea : e < a
    ·have hoG3 : OwnsP ((wr.alloc (.cells #[.int .i64 (a : Int), .int .i64 (q : Int), .bool true] 141)).alloc (.cells #[.int .i64 (e : Int), .int .i64 ((a : Int) - (e : Int))] 318)) w1.heap.size _ _:=World.ownsRow.alloc hoG2 (.cells #[.int .i64 (e : Int), .int .i64 ((a : Int) - (e : Int))] 318);have hbr3:=hbr2.alloc (by simp; omega) (.cells #[.int .i64 (e : Int), .int .i64 ((a : Int) - (e : Int))] 318);have b1:=Blk.new2 wr (.cells #[.int .i64 (a : Int), .int .i64 (q : Int), .bool true] 141) 318 #[.int .i64 (e : Int), .int .i64 ((a : Int) - (e : Int))];have b00:=b0.alloc (.cells #[.int .i64 (e : Int), .int .i64 ((a : Int) - (e : Int))] 318);clear hoG2 b0;go_wp2_with (at_builtin; refine append_pair rfl _ _ rfl w1.heap.size _ G rfl hoG3 (wr.heap.size + 1) e (a - e) _ _ rfl ?c0 rfl b1 ?c1 ?c2 ?_)
     case c0 => omega
     case c1 => omega
     case c2 => simp; omega
     intro v5 w5 hown5 hg5;have hb5:=hbr3.grown hg5 (by simp; omega) (fun k hk => (hoG3.lt k hk).1);have b5:=b00.grown hg5 (fun e2 => by have:=(HOG.out.lt _ e2.symm).2; omega);have p50:=b5.cell 0;have p51:=b5.cell 1;simp only [qTa, qTb, qTc] at p50 p51;clear hg5 b00 b1 hbr3 hbr2 hoG3 b5 p0 p1;go_wp2_with fail;go_roundg g
     case measure => omega
     case rel => have:=HST.out;rw [if_pos hea] at this;exact ⟨j + 1, a + q, _, by omega, by go_num, by go_num, hxf, hown5, hb5, this⟩
    ·go_wp2_with fail;go_roundg g
     case measure => omega
     case rel => have:=HST.out;rw [if_neg hea] at this;exact ⟨j + 1, a + q, G, by omega, by go_num, by go_num, hxf, hoG2, hbr2, this⟩
def Prs (w : World) (A : Option Addr) (l : List (Nat × Nat)) : Prop :=
 ∀ j p, l[j]? = some p -> ∃ g, A = some ⟨g, 0, none⟩ /\ g < w.heap.size /\ w.cell? ⟨g, j * 2, none⟩ = some (.int .i64 (p.1 : Int)) /\ w.cell? ⟨g, j * 2 + 1, none⟩ = some (.int .i64 (p.2 : Int))
theorem Prs.below {w w' : World} {A : Option Addr} {l : List (Nat × Nat)} (h : Prs w A l) (hb : Below w.heap.size w w') : Prs w' A l:=by intro j p hp;obtain ⟨g, hA, hl, h1, h2⟩:=h j p hp;exact ⟨g, hA, Nat.lt_of_lt_of_le hl hb.size, (hb.cell (p:=⟨g, j * 2, none⟩) hl).trans h1, (hb.cell (p:=⟨g, j * 2 + 1, none⟩) hl).trans h2⟩
theorem OwnsP.reads {w : World} {B : Nat} {v : Value} {l : List (Nat × Nat)} (h : OwnsP w B v l) : ∃ A cap, v = .slice A l.length cap /\ l.length <= cap /\ cap <= 9223372036854775807 /\ Prs w A l:=by
 rcases h.2 with ⟨rfl, h0⟩ | ⟨g, cap, cur, rfl, hg, hh, h1, h2, h3, h4⟩
 ·have : l = []:=eq_nil_of_length_eq_zero h0;subst this;exact ⟨none, 0, rfl, by simp, by omega, by intro j p hp; simp at hp⟩
 ·have hr : w.ownsRow B 318 2 (.slice (some ⟨g, 0, none⟩) l.length cap) l.length (prCells l):=h;unfold maxLen at h2;refine ⟨_, cap, rfl, h1, h2, fun j p hp => ⟨g, rfl, (Array.getElem?_eq_some_iff.1 hh).1, ?_, ?_⟩⟩
  ·have hj:=(List.getElem?_eq_some_iff.1 hp).1;rw [World.ownsRow.cellAt hr _ (by omega)];exact (prCells_get l j p hp).1
  ·have hj:=(List.getElem?_eq_some_iff.1 hp).1;rw [World.ownsRow.cellAt hr _ (by omega)];exact (prCells_get l j p hp).2
theorem room_any (P : HpP) (mem : List Int) (bs : List Hb) (w : World) (h : HpAt w P mem bs) :
  Calls Tryz.prog 216 #[.pointer (some ⟨P.h, 0, none⟩)] w fun e w' => ∃ all most : Nat, e = .returned (.tuple #[.int .i64 (all : Int), .int .i64 (most : Int)]) /\ (Packed bs -> all = most) /\ Below w.heap.size w w':=by
 have HG:=hid (gaps_any P mem bs w h);have hc:=h.count;have hN:=h.size;clear h;go_enter Tryz.func216, Tryz.ntmps216;go_wp2_with fail;refine HG.out.mono ?_;rintro e w1 ⟨v, gl, rfl, hgl, ho, hb⟩;obtain ⟨A, cap, rfl, h1, h2, h3⟩:=ho.reads;have hf:=hgl.few;obtain ⟨n, hn⟩ : ∃ n, n = gl.length:=⟨_, rfl⟩;rw [<- hn] at h1 hf ⊢;have hn2 : n <= 1001:=by omega
 have HN:=hid hn;have HI:=hid h3;have HB:=hid hb;have HL:=hid hgl;have hz:=hb.size;clear hn h3 hb hgl ho hf;go_wp2_with fail;go_loopg [4, 5, 13] n (fun gk s4 s5 s13 wr => ∃ (j all most : Nat), j + gk = n /\ s13 = .int .i64 j /\ s4 = .int .i64 all /\ s5 = .int .i64 most /\ all <= 32768 * j /\ most <= 32768 /\ Aside (j <= 1 -> all = most) /\ Aside (j = 0 -> most = 0) /\ Below w1.heap.size w1 wr)
 case atStart => exact ⟨0, 0, 0, by omega, rfl, rfl, rfl, by omega, by omega, fun _ => rfl, fun _ => rfl, Below.refl _ _⟩
 case round =>
  obtain ⟨j, all, most, hj, rfl, rfl, rfl, ha, hm, ho, hz0, hbr⟩:=hrel;cases gk with
  | zero =>
   have hjn : ¬ ((j : Int) < (n : Int)):=by omega
   have HO:=hid ho.out;clear ho hz0;go_wp2_with fail;go_ret2;refine ⟨all, most, rfl, fun hp => HO.out ?_, HB.out.trans (hbr.mono hz)⟩;have:=HL.out.one hp;have:=HN.out;omega
  | succ g =>
   have hjn : (j : Int) < (n : Int):=by omega
   obtain ⟨p, hp⟩ : ∃ p, gl[j]? = some p:=⟨_, getElem?_eq_getElem (by have:=HN.out; omega)⟩;obtain ⟨gb, rfl, hgb, c0, c1⟩:=(HI.out.below hbr) j p hp;have hfit:=HL.out.fit p (mem_of_getElem? hp);obtain ⟨x, y⟩:=p;simp only at c0 c1 hfit;have b0:=Blk.new wr 318 #[.int .i64 (x : Int), .int .i64 (y : Int)];have p1:=b0.cell 1;simp only [qTa, qTb, qTc] at p1;have hbr2:=hbr.alloc hbr.size (.cells #[.int .i64 (x : Int), .int .i64 (y : Int)] 318);have hj2 : j <= 1000:=by omega
   have hal : all <= 40000000:=by omega
   have HO:=hid ho.out;have HZ:=hid hz0.out;have HF:=hid hfit;have hy : y <= 32768:=by omega
   clear ho hz0 hfit hp b0;go_wp2_with fail;generalize wr.alloc (.cells #[.int .i64 (x : Int), .int .i64 (y : Int)] 318) = W at hbr2 p1 ⊢;go_quiet (fail)
   go_wp2_with fail
   all_goals
    go_roundg g
    case measure => omega
    case rel =>
     refine ⟨j + 1, all + y, max most y, by omega, by go_num, by go_num, by congr 1; omega, by omega, by omega, ?_, ?_, below_drewN hbr2 _⟩
     ·intro hj1;have h0 : j = 0:=by omega
      have:=HO.out (by omega);have:=HZ.out h0;omega
     ·intro hj1; omega
theorem HpMem.setUsed {w : World} {P : HpP} {mem : List Int} {bs : List Hb} (h : HpMem w P mem bs) {k : Nat} {x : Hb} (hx : bs[k]? = some x) {g : Nat} (hg : P.b = some g) (b : Bool) :
  HpMem (w.setCell ⟨g, k * 3 + 2, none⟩ (.bool b)) P mem (bs.set k { x with used:=b }):=by
 have h1 : g ≠ P.h:=fun e => h.apart.2.1 (by rw [hg, e]);have h2 : g ≠ P.m:=fun e => h.apart.2.2 (by rw [hg, e]);refine ⟨?_, ?_, ?_, h.apart⟩
 ·rw [length_set]; exact h.head.far (p:=⟨g, k * 3 + 2, none⟩) (Ne.symm h1) _
 ·exact h.words.far (p:=⟨g, k * 3 + 2, none⟩) (Ne.symm h2) _
 ·rw [length_set];have hr:=h.row;unfold HpP.row at hr ⊢;rw [hg] at hr ⊢;have:=(World.ownsRow.stored hr (k * 3 + 2) (.bool b)).1;rw [hbCells_set_used bs k x b hx] at this;exact this
theorem get_set {bs : List Hb} {k i : Nat} {y z : Hb} (h : (bs.set k y)[i]? = some z) : (i = k /\ z = y) \/ (i ≠ k /\ bs[i]? = some z):=by
 rw [List.getElem?_set] at h;by_cases e : k = i
 ·rw [if_pos e] at h;split at h
  ·cases h; exact .inl ⟨e.symm, rfl⟩
  ·cases h
 ·rw [if_neg e] at h;exact .inr ⟨Ne.symm e, h⟩
def FreePost (P : HpP) (mem : List Int) (bs : List Hb) (k : Nat) (x : Hb) (w : World) (e : Ending) (w' : World) : Prop :=
 e = .returned (.int .i64 0) /\ HpAt w' P mem (bs.set k { x with used:=false }) /\ Only P.set w w'
theorem hpFree_in (P : HpP) (mem : List Int) (bs : List Hb) (k : Nat) (x : Hb) (w : World) (h : HpAt w P mem bs) (hk : bs[k]? = some x) (hu : x.used = true) :
  Calls Tryz.prog 219 #[.pointer (some ⟨P.h, 0, none⟩), .int .i64 k] w (FreePost P mem bs k x w):=by
 obtain ⟨g, hg⟩:=h.base.gets hk;have c1:=h.head.cell 1;have f2:=h.base.soft hg (k * 3 + 2);obtain ⟨_, _, d2⟩:=h.base.look hk hg;simp only [qTa, qTb, qTc, HpP.row, hg, Option.map_some] at c1;have hlt:=(List.getElem?_eq_some_iff.1 hk).1;have H:=hid h;have K:=hid hk;have U:=hid hu;have G:=hid hg;clear hk hu h hg;go_enter Tryz.func219, Tryz.ntmps219;go_wp2_with fail;refine (hpHas_in _ _ _ _ _ _ H.out.base K.out).mono ?_;rintro e w2 ⟨rfl, rfl⟩;rw [U.out];go_wp2_with fail;go_ret;have hm:=H.out.base.setUsed K.out G.out false;refine ⟨rfl, ⟨hm.head, hm.words, hm.row, hm.apart, H.out.vals, H.out.size, by rw [length_set]; exact H.out.count, ?_, ?_⟩, (Only.refl P.set w).setCell (p:=⟨g, k * 3 + 2, none⟩) (.inl (.inr (.inr G.out))) _⟩
 ·intro y hy;obtain ⟨i, hi⟩:=List.getElem?_of_mem hy;rcases get_set hi with ⟨_, rfl⟩ | ⟨_, hi2⟩
  ·exact H.out.fit x (mem_of_getElem? K.out)
  ·exact H.out.fit y (mem_of_getElem? hi2)
 ·intro i j y z hi hj hij hy hz;rcases get_set hi with ⟨_, rfl⟩ | ⟨_, hi2⟩
  ·simp at hy
  ·rcases get_set hj with ⟨_, rfl⟩ | ⟨_, hj2⟩
   ·simp at hz
   ·exact H.out.disj i j y z hi2 hj2 hij hy hz
theorem unused_any (a n : Int) (u : Bool) (w : World) : Calls Tryz.prog 222 #[.agg #[.int .i64 a, .int .i64 n, .bool u]] w fun e w' => e = .returned (.bool (!u)) /\ Below w.heap.size w w':=by have b0:=Blk.new w 141 #[.int .i64 a, .int .i64 n, .bool u];have p2:=b0.cell 2;have hb:=(Below.refl w.heap.size w).alloc (Nat.le_refl _) (.cells #[.int .i64 a, .int .i64 n, .bool u] 141);simp only [qTa, qTb, qTc] at p2;clear b0;go_enter Tryz.func222, Tryz.ntmps222;go_wp2_with fail;go_ret;exact ⟨rfl, hb⟩
def freeIx (bs : List Hb) : Option Nat:=bs.findIdx? (fun x => !x.used)
def optI : Option Nat -> Int
 | some k => k
 | none => -1
theorem freeIx_any (P : HpP) (mem : List Int) (bs : List Hb) (w : World) (h : HpMem w P mem bs) (hP : ∀ k, P.set k -> k < w.heap.size) (hc : bs.length <= 1000) (A : Option Addr) (hA : A = P.b.map fun g => ⟨g, 0, none⟩) (L : Nat) (hL : L = bs.length) :
  Calls Tryz.prog 221 #[.slice A L P.cap, .func (.func 222) #[] #[]] w fun e w' => e = .returned (.int .i64 (optI (freeIx bs))) /\ Below w.heap.size w w':=by
 obtain ⟨R, hR⟩ : ∃ R, R = optI (freeIx bs):=⟨_, rfl⟩;rw [<- hR];rw [<- hL] at hc;have H:=hid h;have HA:=hid hA;have HL:=hid hL;have HP:=hid hP;have HR:=hid hR;clear h hA hL hP hR;go_enter Tryz.func221, Tryz.ntmps221;go_wp2_with fail;go_loopg [8] L (fun g s8 wr => ∃ j : Nat, j + g = L /\ s8 = .int .i64 j /\ Below w.heap.size w wr /\ Aside (∀ i, i < j -> ∀ x, bs[i]? = some x -> x.used = true))
 case atStart => exact ⟨0, by omega, rfl, Below.refl _ _, fun i hi => absurd hi (by omega)⟩
 case round =>
  obtain ⟨j, hj, rfl, hb, hall⟩:=hrel;cases gk with
  | zero =>
   have hjn : ¬ ((j : Int) < L):=by omega
   have hr : R = -1:=by
    rw [HR.out, freeIx];have : bs.findIdx? (fun x => !x.used) = none:=by rw [List.findIdx?_eq_none_iff];intro x hx;obtain ⟨i, hi⟩:=List.getElem?_of_mem hx;have hil:=(List.getElem?_eq_some_iff.1 hi).1;have:=hall.out i (by have:=HL.out; omega) x hi;simp [this]
    rw [this]; rfl
   have HRR:=hid hr;clear hr hall;go_wp2;go_ret;rw [HRR.out];exact ⟨rfl, hb⟩
  | succ g =>
   have hjn : (j : Int) < L:=by omega
   have hjb : j < bs.length:=by have:=HL.out; omega
   obtain ⟨x, hx⟩ : ∃ x, bs[j]? = some x:=⟨_, getElem?_eq_getElem hjb⟩;have h2:=H.out.only (only_of hb (fun _ => False)) (fun _ _ h => h);obtain ⟨gb, hgb⟩:=h2.gets hx;obtain ⟨d0, d1, d2⟩:=h2.look hx hgb;have hAA:=HA.out;rw [hgb, Option.map_some] at hAA;subst hAA;have hp:=unused_any (x.at_ : Int) (x.n : Int) x.used wr;obtain ⟨r, hr⟩ : ∃ r, r = x.used:=⟨_, rfl⟩;obtain ⟨a, ha⟩ : ∃ r, r = x.at_:=⟨_, rfl⟩;obtain ⟨n, hn⟩ : ∃ r, r = x.n:=⟨_, rfl⟩;rw [<- hr, <- ha, <- hn] at hp;rw [<- ha] at d0;rw [<- hn] at d1;rw [<- hr] at d2;have HPP:=hid hp;have HX:=hid hx;have HRX:=hid hr;have hz:=hb.size;have HALL:=hid (show ∀ i, i < j -> ∀ x, bs[i]? = some x -> x.used = true from hall.out);clear hp hx hr ha hn h2 hgb hall hjb;cases r
   ·have hres : R = (j : Int):=by
     rw [HR.out, freeIx];have : bs.findIdx? (fun x => !x.used) = some j:=by
      rw [List.findIdx?_eq_some_iff_getElem];have hjl:=(List.getElem?_eq_some_iff.1 HX.out).1;refine ⟨hjl, ?_, ?_⟩
      ·have : bs[j] = x:=by have:=HX.out; rw [getElem?_eq_getElem hjl] at this; exact Option.some.inj this
       rw [this, <- HRX.out]; rfl
      ·intro i hi;have:=HALL.out i hi _ (getElem?_eq_getElem (by omega));simp [this]
     rw [this]; rfl
    have HRR:=hid hres;clear hres;go_wp2_with fail;refine HPP.out.mono ?_;rintro e w' ⟨rfl, hb2⟩;go_wp2;go_ret;rw [HRR.out];exact ⟨rfl, hb.trans (hb2.mono hz)⟩
   ·go_wp2_with fail;refine HPP.out.mono ?_;rintro e w' ⟨rfl, hb2⟩;go_wp2;go_roundg g
    case measure => omega
    case rel =>
     refine ⟨j + 1, by omega, by go_num, hb.trans (hb2.mono hz), ?_⟩;intro i hi y hy;by_cases e : i = j
     ·subst e;have:=HX.out.symm.trans hy;cases this
      exact HRX.out.symm
     ·exact HALL.out i (by omega) y hy
end Go.Proofs.YtgaemfghpibeeaaGreatDoor
namespace Go.Proofs.YtgaemfghpibeeaaGreatDoor
open Go.RowKit
section
variable {P : Program} (w : World)
theorem append_where (base : Nat) (t ty e : TypeId) (i : TypeInfo) (z : Value) (size bytes : Nat) (ht : P.underlying t = some (.slice e)) (hi : P.info? e = some i) (hz : i.zero = some z)
  (hsize : i.size = size) (hby : i.bytes = bytes) (hzs : z.cells.size = size) (hsz : 0 < size)
  (v : Value) (n : Nat) (xs : List Value) (hown : w.ownsRow base e size v n xs)
  (a : Addr) (m c : Nat) (news : List Value) (hm : 0 < m) (hl : news.length = m * size) (hnews : ∀ j u, news[j]? = some u -> w.cell? (a.add j) = some u) (h1 : ∀ u ∈ news, u.oneCell' = true)
  (h63 : n + m <= maxLen) (hbytes : (n + m) * bytes <= 140737488355328) (hbase : base <= w.heap.size) :
  ∃ v' w', (Builtin.append_ #[t, t] ty #[v, .slice (some a) m c]).run P w = .ok v' w' /\ w'.ownsRow base e size v' (n + m) (xs ++ news) /\ w.grownBy w' v.ownBlock /\
   (v'.ownBlock = v.ownBlock \/ v'.ownBlock = some w.heap.size):=by
 have hsmall : n + m <= 9223372036854775807:=by simp only [maxLen] at h63; omega
 obtain ⟨v', w', hr, h2, h3, _⟩:=run_append_own (P:=P) w base t ty e i z size bytes ht hi hz hsize hby hzs hsz v n xs hown a m c news hl hnews h1 h63 hbytes hbase;refine ⟨v', w', hr, h2, h3, ?_⟩;subst hsize;subst hby;rcases hown.2 with ⟨rfl, rfl⟩ | ⟨g, cap, cur, rfl, hbg, hg, hnc, hcm, hcs, htake⟩
 ·have hr2:=run_append_nil (P:=P) w t ty e i z ht hi hz a m c news hl hnews (by omega) (by omega) (by have hb:=hbytes; simp only [Nat.zero_add] at hb; omega);rw [hr] at hr2;injection hr2 with e1 e2;rw [e1];exact .inr rfl
 ·by_cases hroom : n + m <= cap
  ·have hfit : n * i.size + news.length <= cur.size:=by rw [hl, hcs, <- Nat.add_mul]; exact Nat.mul_le_mul_right _ hroom
   have hr2:=run_append_room (P:=P) w t ty e i ht hi g n cap cur hg a m c news hl hnews h1 hroom hfit;rw [hr] at hr2;injection hr2 with e1 e2;rw [e1];exact .inl rfl
  ·have holds : ∀ j u, xs[j]? = some u -> w.cell? ((⟨g, 0, none⟩ : Addr).add j) = some u:=hown.cells (g:=g) rfl;have hr2:=run_append_grow (P:=P) w t ty e i z ht hi hz ⟨g, 0, none⟩ n cap xs hown.1 holds a m c news hl hnews (by omega) (by omega) (growslice_fits (by omega) hbytes);rw [hr] at hr2;injection hr2 with e1 e2;rw [e1];exact .inr rfl
end
theorem Tryz.info141 : (Tryz.prog.info? 141).map (fun i => (i.zero, i.size, i.bytes)) = some (some (.agg #[.int .i64 0, .int .i64 0, .bool false]), 3, 24):=by kernel_rfl
theorem hbCells_append (a b : List Hb) : hbCells (a ++ b) = hbCells a ++ hbCells b:=by simp [hbCells]
def Hb.zero : Hb:=⟨0, 0, false⟩
theorem append_hb {w : World} {ops : Array Oper} {rest : List Oper} {o : Oper} {a : Act} {Q : Exit -> Act -> World -> Prop} (hgd : o.guard = none) (s x : Operand)
  (ho : o.op = .call { callee:=.builtin .append, args:=#[s, x], argTypes:=#[114, 114] })
  (v : Value) (acc : List Hb) (hs : a.eval s = v) (hown : w.ownsRow 0 141 3 v acc.length (hbCells acc)) (g : Nat) (hx : a.eval x = .slice (some ⟨g, 0, none⟩) 1 1) (hB : Blk w g 141 #[.int .i64 0, .int .i64 0, .bool false])
  (hbig : acc.length <= 8388608)
  (h : ∀ g' cap' w', w'.ownsRow 0 141 3 (.slice (some ⟨g', 0, none⟩) (acc.length + 1) cap') (acc.length + 1) (hbCells (acc ++ [Hb.zero])) -> w.grownBy w' v.ownBlock -> (v.ownBlock = some g' \/ g' = w.heap.size) ->
   wpList Tryz.prog ops Q rest (a.put o.dst (.slice (some ⟨g', 0, none⟩) (acc.length + 1) cap')) w') : wpList Tryz.prog ops Q (o :: rest) a w:=by
 obtain ⟨i0, hi, hz0, hz1, hz2⟩:=info_parts Tryz.info141;refine wpList_plain hgd fun K hK => ?_;obtain ⟨v', w', hr, h2, h3, h4⟩:=append_where (P:=Tryz.prog) w 0 114 o.type 141 i0 (.agg #[.int .i64 0, .int .i64 0, .bool false]) 3 24 Tryz.underlying114 hi hz0 hz1 hz2 rfl (by decide) v acc.length (hbCells acc) hown ⟨g, 0, none⟩ 1 1 [.int .i64 0, .int .i64 0, .bool false] (by decide) rfl hB.row
  (by intro u hu; simp at hu; rcases hu with rfl | rfl <;> rfl) (by unfold maxLen; omega) (by omega) (Nat.zero_le _)
 unfold Oper.wp;simp only [execOp, ho, resolve, invoke, builtin, Sem.run_bind, Sem.run_pure, Result.andThen_ok, List.map_toArray, List.map_cons, List.map_nil, hs, hx, hr];refine hK _ _ ?_;rcases h2.2 with ⟨e, h0⟩ | ⟨g', cap', cur, rfl, _⟩
 ·omega
 ·refine h g' cap' w' ?_ h3 ?_
  ·rw [hbCells_append]; exact h2
  ·rcases h4 with h4 | h4
   ·exact .inl (by rw [<- h4]; rfl)
   ·right
    simpa [Value.ownBlock] using h4
theorem clear_words {w : World} {ops : Array Oper} {rest : List Oper} {o : Oper} {a : Act} {Q : Exit -> Act -> World -> Prop} (hgd : o.guard = none) (x : Operand)
  (ho : o.op = .call { callee:=.builtin .clear, args:=#[x], argTypes:=#[113] }) (g off n cap : Nat) (hx : a.eval x = .slice (some ⟨g, off, none⟩) n cap) (bs : List Int) (hb : Blk w g 25 (wCells bs)) (hfit : off + n <= bs.length)
  (h : ∀ w', Blk w' g 25 (wCells (bs.take off ++ (List.replicate n 0 ++ bs.drop (off + n)))) -> Only (fun k => k = g) w w' -> wpList Tryz.prog ops Q rest (a.put o.dst (.tuple #[])) w') : wpList Tryz.prog ops Q (o :: rest) a w:=by
 refine wpList_plain hgd fun K hK => ?_;have hz : (zeroValue 25).run Tryz.prog w = .ok (.int .u16 0) w:=by kernel_rfl
 by_cases h0 : n = 0
 ·subst h0;have hrun : (Builtin.clear_ #[113] o.type #[.slice (some ⟨g, off, none⟩) 0 cap]).run Tryz.prog w = .ok (.tuple #[]) w:=by simp [Builtin.clear_, run_underlying Tryz.underlying113]
  unfold Oper.wp;simp [execOp, ho, resolve, invoke, builtin, hx, hrun, Result.andThen];exact hK _ _ (h w (by simpa using hb) (Only.refl _ _))
 ·have hst:=run_storeCells_at Tryz.prog g off 25 (List.replicate n (Value.int .u16 0)) 0 (wCells bs) w hb (by simp [wCells]; omega) (by intro v hv; rw [List.eq_of_mem_replicate hv]; rfl);have ez : (Builtin.zeroCells (Value.int .u16 0).cells n).toList = List.replicate n (Value.int .u16 0):=by
   apply List.ext_getElem?
   intro j;by_cases hj : j < n
   ·simp [Builtin.zeroCells, Value.cells, hj, Nat.mod_one]
   ·simp [Builtin.zeroCells, Value.cells, hj]
  have e : ((wCells bs).toList.take (off + 0) ++ List.replicate n (Value.int .u16 0) ++ (wCells bs).toList.drop (off + 0 + (List.replicate n (Value.int .u16 0)).length)).toArray = wCells (bs.take off ++ (List.replicate n 0 ++ bs.drop (off + n))):=by simp [wCells]
  rw [e] at hst;have hrun : (Builtin.clear_ #[113] o.type #[.slice (some ⟨g, off, none⟩) n cap]).run Tryz.prog w = .ok (.tuple #[]) (w.setRow g (wCells (bs.take off ++ (List.replicate n 0 ++ bs.drop (off + n))))):=by obtain ⟨k, rfl⟩ : ∃ k, n = k + 1:=⟨n - 1, by omega⟩;simp [Builtin.clear_, run_underlying Tryz.underlying113, hz, ez, hst]
  unfold Oper.wp;simp [execOp, ho, resolve, invoke, builtin, hx, hrun, Result.andThen];exact hK _ _ (h _ (hb.setRow _) (only_setRow _ _ _))
end Go.Proofs.YtgaemfghpibeeaaGreatDoor
namespace Go.Proofs.YtgaemfghpibeeaaGreatDoor
open Go.RowKit
def Spot (bs : List Hb) (N n p : Nat) : Prop:=p + n <= N /\ (0 < n -> ∀ k x, Real bs k x -> x.at_ + x.n <= p \/ p + n <= x.at_)
def AllocPost (P : HpP) (mem : List Int) (bs : List Hb) (n : Nat) (w : World) (e : Ending) (w' : World) : Prop :=
 (e = .returned (.tuple #[.int .i64 0, .int .i64 3]) /\ Below w.heap.size w w') \/
 ∃ (k : Nat) (P' : HpP) (p : Nat) (bs' : List Hb), e = .returned (.tuple #[.int .i64 (k : Int), .int .i64 0]) /\ HpAt w' P' (mem.take p ++ (List.replicate n 0 ++ mem.drop (p + n))) bs' /\ P'.h = P.h /\ P'.m = P.m /\ (∀ g, P'.b = some g -> P.b = some g \/ w.heap.size <= g) /\ Only P.set w w' /\
  Spot bs mem.length n p /\ ((freeIx bs = some k /\ bs' = bs.set k ⟨p, n, true⟩) \/ (freeIx bs = none /\ k = bs.length /\ bs' = bs ++ [⟨p, n, true⟩]))
theorem HpMem.setAll {w : World} {P : HpP} {mem : List Int} {bs : List Hb} (h : HpMem w P mem bs) {k : Nat} (hk : k < bs.length) {g : Nat} (hg : P.b = some g) (y : Hb) :
  HpMem (((w.setCell ⟨g, k * 3, none⟩ (.int .i64 (y.at_ : Int))).setCell ⟨g, k * 3 + 1, none⟩ (.int .i64 (y.n : Int))).setCell ⟨g, k * 3 + 2, none⟩ (.bool y.used)) P mem (bs.set k y):=by
 have h1 : g ≠ P.h:=fun e => h.apart.2.1 (by rw [hg, e]);have h2 : g ≠ P.m:=fun e => h.apart.2.2 (by rw [hg, e]);refine ⟨?_, ?_, ?_, h.apart⟩
 ·rw [length_set]; exact ((h.head.far (p:=⟨g, k * 3, none⟩) (Ne.symm h1) _).far (p:=⟨g, k * 3 + 1, none⟩) (Ne.symm h1) _).far (p:=⟨g, k * 3 + 2, none⟩) (Ne.symm h1) _
 ·exact ((h.words.far (p:=⟨g, k * 3, none⟩) (Ne.symm h2) _).far (p:=⟨g, k * 3 + 1, none⟩) (Ne.symm h2) _).far (p:=⟨g, k * 3 + 2, none⟩) (Ne.symm h2) _
 ·rw [length_set];have hr:=h.row;unfold HpP.row at hr ⊢;rw [hg] at hr ⊢;have r1:=(World.ownsRow.stored hr (k * 3) (.int .i64 (y.at_ : Int))).1;have r2:=(World.ownsRow.stored r1 (k * 3 + 1) (.int .i64 (y.n : Int))).1;have r3:=(World.ownsRow.stored r2 (k * 3 + 2) (.bool y.used)).1;rw [hbCells_set bs k y hk] at r3;exact r3
theorem hpAt_new {w w' : World} {P P' : HpP} {mem mem' : List Int} {bs bs' : List Hb} {k p n : Nat} (H : HpAt w P mem bs) (hsp : Spot bs mem.length n p) (hM : HpMem w' P' mem' bs') (hmem : mem' = mem.take p ++ (List.replicate n 0 ++ mem.drop (p + n)))
  (hget : ∀ i z, bs'[i]? = some z -> (i = k /\ z = ⟨p, n, true⟩) \/ (i ≠ k /\ bs[i]? = some z)) (hc : bs'.length <= 1000) : HpAt w' P' mem' bs':=by
 have hp:=hsp.1;have hl : mem'.length = mem.length:=by rw [hmem]; simp; omega
 refine ⟨hM.head, hM.words, hM.row, hM.apart, ?_, by rw [hl]; exact H.size, hc, ?_, ?_⟩
 ·intro v hv;rw [hmem] at hv;rcases List.mem_append.1 hv with hv | hv
  ·exact H.vals v (List.mem_of_mem_take hv)
  ·rcases List.mem_append.1 hv with hv | hv
   ·have:=(List.mem_replicate.1 hv).2; omega
   ·exact H.vals v (List.mem_of_mem_drop hv)
 ·intro x hx;rw [hl];obtain ⟨i, hi⟩:=List.getElem?_of_mem hx;rcases hget i x hi with ⟨_, rfl⟩ | ⟨_, h⟩
  ·exact hp
  ·exact H.fit x (mem_of_getElem? h)
 ·intro i j x y hi hj hij hx hy hx0 hy0;rcases hget i x hi with ⟨rfl, rfl⟩ | ⟨_, h1⟩
  ·rcases hget j y hj with ⟨rfl, _⟩ | ⟨_, h2⟩
   ·exact absurd rfl hij
   ·exact (hsp.2 hx0 j y ⟨h2, hy, hy0⟩).symm
  ·rcases hget j y hj with ⟨rfl, rfl⟩ | ⟨_, h2⟩
   ·exact hsp.2 hy0 i x ⟨h1, hx, hx0⟩
   ·exact H.disj i j x y h1 h2 hij hx hy hx0 hy0
theorem alloc_any (P : HpP) (mem : List Int) (bs : List Hb) (n : Nat) (w : World) (h : HpAt w P mem bs) (hn : n <= 40000) (hc : bs.length < 1000) :
  Calls Tryz.prog 215 #[.pointer (some ⟨P.h, 0, none⟩), .int .i64 n] w (AllocPost P mem bs n w):=by
 have HG:=hid (gaps_any P mem bs w h);have H:=hid h;have hN:=h.size;obtain ⟨N, hNN⟩ : ∃ N, N = mem.length:=⟨_, rfl⟩;rw [<- hNN] at hN;have HN:=hid hNN;clear h hNN;go_enter Tryz.func215, Tryz.ntmps215;go_upto_if 17 with (fail)
 go_step3
 go_upto_if 17 with (fail)
 go_cut [6] from 18 to 18 (fun s6 wx => ∃ s : Int, s6 = .int .i64 s /\ (s = -1 \/ ∃ p : Nat, s = p /\ Aside (Spot bs N n p)) /\ wx = w)
 case first =>
  by_cases h0 : n = 0
  ·subst h0;go_wp2_with fail;go_meet;exact ⟨0, rfl, .inr ⟨0, rfl, by omega, fun h => absurd h (by omega)⟩, rfl⟩
  ·have hn0 : ((n : Int) == 0) = false:=by simp; omega
   go_wp2_with fail;go_meet;exact ⟨-1, rfl, .inl rfl, rfl⟩
 obtain ⟨s, rfl, hs, hwc⟩:=hcut;subst wc;go_wp2_with fail;go_step3
 go_wp2_with fail;refine HG.out.mono ?_;rintro e w1 ⟨v, gl, rfl, hgl, ho, hb⟩;obtain ⟨A, cap, rfl, h1, h2, h3⟩:=ho.reads;have hf:=hgl.few;obtain ⟨m, hm⟩ : ∃ m, m = gl.length:=⟨_, rfl⟩;rw [<- hm] at h1 hf ⊢;have hm2 : m <= 1000:=by omega
 have HM:=hid hm;have HI:=hid h3;have HB:=hid hb;have HL:=hid hgl;have hz:=hb.size;clear hm h3 hb hgl ho hf;go_upto_block 1 with fail
 go_cut [6] from 21 to 33 (fun s6 wx => ∃ s : Int, s6 = .int .i64 s /\ (s = -1 \/ ∃ p : Nat, s = p /\ Aside (Spot bs N n p)) /\ Below w1.heap.size w1 wx)
 case first =>
  go_wp2_with fail;go_loopg [6, 21] m (fun gk s6 s21 wr => ∃ (j : Nat) (s : Int), j + gk = m /\ s21 = .int .i64 j /\ s6 = .int .i64 s /\ (s = -1 \/ ∃ p : Nat, s = p /\ Aside (Spot bs N n p)) /\ Below w1.heap.size w1 wr)
  case atStart => exact ⟨0, s, by omega, rfl, rfl, hs, Below.refl _ _⟩
  case round =>
   obtain ⟨j, s, hj, rfl, rfl, hs, hbr⟩:=hrel;have HSS:=hid hs;have HBR:=hid hbr;cases gk with
   | zero =>
    have hjn : ¬ ((j : Int) < (m : Int)):=by omega
    clear hs hbr;go_wp2_with fail;go_meet;exact ⟨s, rfl, HSS.out, HBR.out⟩
   | succ g =>
    have hjn : (j : Int) < (m : Int):=by omega
    obtain ⟨p, hp⟩ : ∃ p, gl[j]? = some p:=⟨_, getElem?_eq_getElem (by have:=HM.out; omega)⟩;obtain ⟨gb, rfl, hgb, c0, c1⟩:=(HI.out.below hbr) j p hp;have hfit:=HL.out.fit p (mem_of_getElem? hp);have hfree:=HL.out.free p (mem_of_getElem? hp);obtain ⟨x, y⟩:=p;simp only at c0 c1 hfit hfree;have b0:=Blk.new wr 318 #[.int .i64 (x : Int), .int .i64 (y : Int)];have p0:=b0.cell 0;have p1:=b0.cell 1;simp only [qTa, qTb, qTc] at p0 p1;have hbr2:=hbr.alloc hbr.size (.cells #[.int .i64 (x : Int), .int .i64 (y : Int)] 318);have hfx : x + y <= 32768:=by have:=HN.out; omega
    have hspot : n <= y -> Spot bs N n x:=by intro hny;refine ⟨by have:=HN.out; omega, fun _ k z hz => ?_⟩;have:=hfree k z hz;omega
    have SP:=hid hspot;have hz1:=hbr.size;clear hs hbr hp hfit hfree hspot b0;by_cases hs0 : s = -1
    ·subst hs0;by_cases hny : n <= y
     ·go_wp2_with fail;go_roundg g
      case measure => omega
      case rel => exact ⟨j + 1, (x : Int), by omega, by go_num, rfl, .inr ⟨x, rfl, SP.out hny⟩, hbr2⟩
     ·go_wp2_with fail;go_roundg g
      case measure => omega
      case rel => exact ⟨j + 1, -1, by omega, by go_num, rfl, .inl rfl, hbr2⟩
    ·have hs1 : 0 <= s:=by
      rcases HSS.out with h | ⟨p, hp, _⟩
      ·exact absurd h hs0
      ·omega
     go_wp2_with fail;go_meet;exact ⟨s, rfl, HSS.out, hbr2⟩
 obtain ⟨s2, rfl, hs2, hb2⟩:=hcut
 rename World => w2
 have HB2:=hid (HB.out.trans (hb2.mono hz));have hz2:=hb2.size;clear hs hb2;rcases hs2 with rfl | ⟨p, rfl, hsp⟩
 ·go_wp2_with fail;go_ret2;exact .inl ⟨rfl, HB2.out⟩
 ·have hM2 : HpMem w2 P mem bs:=H.out.base.only (only_of HB2.out (fun _ => False)) (fun _ _ h => h);obtain ⟨A2, hA2⟩ : ∃ A, A = P.b.map fun g => (⟨g, 0, none⟩ : Addr):=⟨_, rfl⟩;obtain ⟨L, hL⟩ : ∃ L, L = bs.length:=⟨_, rfl⟩;obtain ⟨mem', hmem⟩ : ∃ l, l = mem.take p ++ (List.replicate n 0 ++ mem.drop (p + n)):=⟨_, rfl⟩;have hpn : p + n <= N:=hsp.out.1;have hlen' : mem'.length = N:=by have:=HN.out; rw [hmem]; simp; omega
  have c0:=hM2.head.cell 0;simp only [qTa, qTb] at c0;rw [<- HN.out] at c0;have tail : ∀ w3, Blk w3 P.m 25 (wCells mem') -> Only (fun k => k = P.m) w2 w3 -> HpMem w3 P mem' bs /\ w3.cell? ⟨P.h, 1, none⟩ = some (.slice A2 L P.cap):=by
   intro w3 hb3 ho3;have hh:=hM2.head.only ho3 hM2.apart.1;have hM3 : HpMem w3 P mem' bs:=by
    refine ⟨?_, hb3, ?_, hM2.apart⟩
    ·rw [hlen', HN.out]; exact hh
    ·refine ⟨hM2.row.1, hM2.row.2.imp id ?_⟩;rintro ⟨g, cap, cur, hv, h1, h2, h3⟩;refine ⟨g, cap, cur, hv, h1, (ho3.block g (Array.getElem?_eq_some_iff.1 h2).1 ?_).trans h2, h3⟩;rintro rfl;have:=congrArg Value.ownBlock hv;unfold HpP.row at this;cases hb : P.b with
     | none => rw [hb] at this; simp [Value.ownBlock] at this
     | some k => rw [hb] at this;simp [Value.ownBlock] at this;exact hM2.apart.2.2 (by rw [hb, this])
   refine ⟨hM3, ?_⟩;have:=hM3.head.cell 1;simp only [qTa, qTb, qTc, HpP.row] at this;rw [<- hA2, <- hL] at this;exact this
  have T:=hid tail;have HW2:=hid hM2.words;have HMM:=hid hmem;have HA2:=hid hA2;have HL2:=hid hL;have HSP:=hid hsp.out;have HLN:=hid hlen';clear tail hM2 hmem hA2 hL hsp hlen';go_upto_region 17 with fail;go_cut [] from 36 to 44 (fun wx => Blk wx P.m 25 (wCells mem') /\ Only (fun k => k = P.m) w2 wx)
  case first =>
   by_cases hpN : p = N
   ·have hn0 : n = 0:=by omega
    subst hpN;subst hn0;go_wp2_with (refine clear_words rfl (.tmp 44) rfl P.m 0 0 _ rfl mem HW2.out (by omega) ?_; intro w3 hb3 ho3; have HB3:=hid hb3; have HO3:=hid ho3; clear hb3 ho3);go_meet;refine ⟨?_, HO3.out⟩;have e : mem' = mem:=by rw [HMM.out]; simp
    rw [e]
    simpa using HB3.out
   ·have hne : ¬ ((N : Int) = (p : Int)):=by omega
    have hb1 : (p : Int) + (n : Int) <= (N : Int):=by omega
    go_wp2_with (refine clear_words rfl (.tmp 44) rfl P.m p (p + n - p) _ rfl mem HW2.out (by have:=HN.out; omega) ?_; intro w3 hb3 ho3; rw [Nat.add_sub_cancel_left, <- HMM.out] at hb3; have HB3:=hid hb3; have HO3:=hid ho3; clear hb3 ho3);go_meet;exact ⟨HB3.out, HO3.out⟩
  obtain ⟨hb3, ho3⟩:=hcut
  rename World => w3
  obtain ⟨hM3, c1⟩:=T.out w3 hb3 ho3;have HM3:=hid hM3;have HO3:=hid ho3;have hz3:=ho3.size;clear hb3 ho3 hM3 c0;have hP3 : ∀ k, P.set k -> k < w3.heap.size:=fun k hk => by have:=H.out.lt k hk; omega
  have HF:=hid (freeIx_any P mem' bs w3 HM3.out hP3 (by omega) A2 HA2.out L HL2.out);clear hP3;cases hfx : freeIx bs with
  | some k =>
   rw [hfx] at HF;have hkb : k < bs.length:=(List.findIdx?_eq_some_iff_getElem.1 hfx).1;have HFX:=hid hfx;have hF : Calls Tryz.prog 221 #[.slice A2 L P.cap, .func (.func 222) #[] #[]] w3 fun e w' => e = .returned (.int .i64 (k : Int)) /\ Below w3.heap.size w3 w':=HF.out;have HF2:=hid hF;clear hF hfx;go_wp2_with fail;refine HF2.out.mono ?_;rintro e w4 ⟨rfl, hb4⟩;have hM4:=HM3.out.only (only_of hb4 (fun _ => False)) (fun _ _ h => h);obtain ⟨x, hx⟩ : ∃ x, bs[k]? = some x:=⟨_, getElem?_eq_getElem hkb⟩;obtain ⟨gb, hgb⟩:=hM4.gets hx;obtain ⟨d0, d1, d2⟩:=hM4.look hx hgb;have f0:=hM4.soft hgb (k * 3);have f1:=hM4.soft hgb (k * 3 + 1);have f2:=hM4.soft hgb (k * 3 + 2);have c14:=hM4.head.cell 1;simp only [qTa, qTb, qTc, HpP.row, hgb, Option.map_some] at c14;rw [<- HL2.out] at c14;have HM4:=hid hM4;have HB4:=hid hb4;have HGB:=hid hgb;have hkL : k < L:=by have:=HL2.out; omega
   clear hM4 hb4 hx hgb hkb;go_wp2_with fail;rw [Exit.noGoto_ret];go_ret2;have hkb : k < bs.length:=by rw [<- HL2.out]; exact hkL
   have hM5:=HM4.out.setAll hkb HGB.out ⟨p, n, true⟩;have hget : ∀ i z, (bs.set k ⟨p, n, true⟩)[i]? = some z -> (i = k /\ z = ⟨p, n, true⟩) \/ (i ≠ k /\ bs[i]? = some z):=fun i z hz => get_set hz;have hnew:=hpAt_new H.out (HN.out ▸ HSP.out) hM5 HMM.out hget (by rw [length_set]; omega);rw [HMM.out] at hnew;refine .inr ⟨k, P, p, _, rfl, hnew, rfl, rfl, fun g hg => .inl hg, ?_, HN.out ▸ HSP.out, .inl ⟨HFX.out, rfl⟩⟩;have o1 : Only P.set w w4:=((only_of HB2.out P.set).trans (HO3.out.mono (fun g hg => .inr (.inl hg)))).trans (only_of HB4.out P.set);exact ((o1.setCell (p:=⟨gb, k * 3, none⟩) (.inl (.inr (.inr HGB.out))) _).setCell (p:=⟨gb, k * 3 + 1, none⟩) (.inl (.inr (.inr HGB.out))) _).setCell (p:=⟨gb, k * 3 + 2, none⟩) (.inl (.inr (.inr HGB.out))) _
  | none =>
   rw [hfx] at HF;have HFX:=hid hfx;have hF : Calls Tryz.prog 221 #[.slice A2 L P.cap, .func (.func 222) #[] #[]] w3 fun e w' => e = .returned (.int .i64 (-1)) /\ Below w3.heap.size w3 w':=HF.out;have HF2:=hid hF;clear hF hfx;go_wp2_with fail;refine HF2.out.mono ?_;rintro e w4 ⟨rfl, hb4⟩;have hM4:=HM3.out.only (only_of hb4 (fun _ => False)) (fun _ _ h => h);have c14:=hM4.head.cell 1;have f14:=hM4.head.frozen 1;simp only [qTa, qTb, qTc, HpP.row] at c14;rw [<- HL2.out, <- HA2.out] at c14;have hrow:=hM4.row;have erow : P.row bs.length = .slice A2 L P.cap:=by unfold HpP.row; rw [<- HL2.out, <- HA2.out]
   rw [erow] at hrow;have hrow2:=World.ownsRow.alloc hrow (.cells #[.int .i64 0, .int .i64 0, .bool false] 141);have bz:=Blk.new w4 141 #[.int .i64 0, .int .i64 0, .bool false];have HM4:=hid hM4;have HB4:=hid hb4;have HR2:=hid hrow2;have HBZ:=hid bz;have HER:=hid erow;clear hM4 hb4 hrow hrow2 bz erow;go_wp2_with (at_builtin; refine append_hb rfl _ _ rfl _ bs rfl HR2.out w4.heap.size rfl HBZ.out ?c0 ?_)
   case c0 => omega
   intro g' cap' w5 ho5 hg5 hw5;have hown : (Value.slice A2 L P.cap).ownBlock = P.b:=by rw [HA2.out];cases P.b <;> rfl
   rw [hown] at hg5 hw5;have hap:=HM4.out.apart;have hh4 : P.h < w4.heap.size:=HM4.out.head.lt;have hm4 : P.m < w4.heap.size:=HM4.out.words.lt;have hne : g' ≠ P.h /\ g' ≠ P.m:=by
    rcases hw5 with h | h
    ·exact ⟨fun e => hap.2.1 (by rw [h, e]), fun e => hap.2.2 (by rw [h, e])⟩
    ·omega
   have hh5:=(HM4.out.head.alloc (.cells #[.int .i64 0, .int .i64 0, .bool false] 141)).grown hg5 (fun e => hap.2.1 e.symm);have hm5:=(HM4.out.words.alloc (.cells #[.int .i64 0, .int .i64 0, .bool false] 141)).grown hg5 (fun e => hap.2.2 e.symm);have c15:=hh5.cell 1;have f15:=hh5.frozen 1;simp only [qTa, qTb, qTc] at c15;have hM6 : HpMem (w5.setCell ⟨P.h, 1, none⟩ (.slice (some ⟨g', 0, none⟩) (bs.length + 1) cap')) ⟨P.h, P.m, some g', cap'⟩ mem' (bs ++ [Hb.zero]):=by
    refine ⟨?_, hm5.far (p:=⟨P.h, 1, none⟩) (Ne.symm hap.1) _, ?_, hap.1, fun e => hne.1 (by injection e), fun e => hne.2 (by injection e)⟩
    ·have:=hh5.set_ 1 (.slice (some ⟨g', 0, none⟩) (bs.length + 1) cap')
     simpa [HpP.row] using this
    ·have e : (bs ++ [Hb.zero]).length = bs.length + 1:=by simp
     rw [e];refine ⟨ho5.1, ho5.2.imp (fun h => by simp at h) ?_⟩;rintro ⟨g2, cap2, cur, hv, h1, h2, h3⟩;have e2 : g' = g2:=by simp at hv; exact hv.1
     exact ⟨g2, cap2, cur, hv, h1, (Below.heap_setCell w5 ⟨P.h, 1, none⟩ _ g2 (by rw [<- e2]; exact hne.1)).trans h2, h3⟩
   have HM6:=hid hM6;have HG5:=hid hg5;have HW5:=hid hw5;have HNE:=hid hne;have HAP:=hid hap;clear hM6 hg5 hw5 hne hap hh5 hm5 ho5 hown;go_upto_region 22 with fail;generalize hW6 : w5.setCell ⟨P.h, 1, none⟩ (.slice (some ⟨g', 0, none⟩) (bs.length + 1) cap') = w6 at HM6 ⊢;have HW6:=hid hW6;clear hW6 c15 f15 c14 f14;have hx : (bs ++ [Hb.zero])[L]? = some Hb.zero:=by rw [HL2.out]; simp
   obtain ⟨d0, d1, d2⟩:=HM6.out.look hx (g:=g') rfl;have f0:=HM6.out.soft (g:=g') rfl (L * 3);have f1:=HM6.out.soft (g:=g') rfl (L * 3 + 1);have f2:=HM6.out.soft (g:=g') rfl (L * 3 + 2);have c16:=HM6.out.head.cell 1;have e1 : (bs ++ [Hb.zero]).length = L + 1:=by rw [HL2.out]; simp
   simp only [qTa, qTb, qTc, HpP.row, Option.map_some, e1] at c16;clear hx e1;go_wp2_with fail;rw [Exit.noGoto_ret];go_ret2;have hkb : L < (bs ++ [Hb.zero]).length:=by rw [HL2.out]; simp
   have hM7:=HM6.out.setAll hkb (g:=g') rfl ⟨p, n, true⟩;have eset : (bs ++ [Hb.zero]).set L ⟨p, n, true⟩ = bs ++ [⟨p, n, true⟩]:=by rw [HL2.out]; simp
   rw [eset] at hM7;have hget : ∀ i z, (bs ++ [(⟨p, n, true⟩ : Hb)])[i]? = some z -> (i = L /\ z = ⟨p, n, true⟩) \/ (i ≠ L /\ bs[i]? = some z):=by
    intro i z hz;have hl:=HL2.out;by_cases hi : i < bs.length
    ·rw [getElem?_append_left hi] at hz;exact .inr ⟨by omega, hz⟩
    ·rw [getElem?_append_right (by omega)] at hz;have hi2:=(List.getElem?_eq_some_iff.1 hz).1;simp at hi2;have e : i - bs.length = 0:=by omega
     rw [e] at hz;simp at hz;exact .inl ⟨by omega, hz.symm⟩
   have hnew:=hpAt_new H.out (HN.out ▸ HSP.out) hM7 HMM.out hget (by simp; omega);rw [HMM.out] at hnew;refine .inr ⟨L, ⟨P.h, P.m, some g', cap'⟩, p, _, rfl, hnew, rfl, rfl, ?_, ?_, HN.out ▸ HSP.out, .inr ⟨HFX.out, HL2.out, rfl⟩⟩
   ·intro g hg;have e : g' = g:=by simpa using hg
    rw [<- e];rcases HW5.out with h | h
    ·exact .inl h
    ·have:=HB4.out.size
     right; omega
   ·have o1 : Only P.set w w4:=((only_of HB2.out P.set).trans (HO3.out.mono (fun g hg => .inr (.inl hg)))).trans (only_of HB4.out P.set);have o2:=o1.alloc (.cells #[.int .i64 0, .int .i64 0, .bool false] 141);have o3 : Only P.set w w5:=o2.trans ⟨HG5.out.os, HG5.out.tape, HG5.out.output, HG5.out.size, fun g hg hs => HG5.out.block g hg (fun e => hs (.inr (.inr e.symm)))⟩;have o4:=o3.setCell (p:=⟨P.h, 1, none⟩) (.inl (.inl rfl)) (.slice (some ⟨g', 0, none⟩) (bs.length + 1) cap');rw [HW6.out] at o4;have hg' : P.set g' \/ w.heap.size <= g':=by
     rcases HW5.out with h | h
     ·exact .inl (.inr (.inr h))
     ·have:=HB4.out.size
      right; omega
    exact ((o4.setCell (p:=⟨g', L * 3, none⟩) hg' _).setCell (p:=⟨g', L * 3 + 1, none⟩) hg' _).setCell (p:=⟨g', L * 3 + 2, none⟩) hg' _
def okW (x : Int) : Bool:=decide (0 <= x) && decide (x <= 65535)
theorem not_okW (x : Int) (w : World) : Calls Tryz.prog 184 #[.int .i64 x] w fun e w' => e = .returned (.bool (!okW x)) /\ w = w':=by
 by_cases h1 : x < 0
 ·have e : okW x = false:=by simp [okW]; omega
  rw [e];clear e;go_enter Tryz.func184, Tryz.ntmps184;go_wp2;go_ret;exact ⟨rfl, rfl⟩
 ·by_cases h2 : x > 65535
  ·have e : okW x = false:=by simp [okW]; omega
   rw [e];clear e;go_enter Tryz.func184, Tryz.ntmps184;go_wp2;go_ret;exact ⟨rfl, rfl⟩
  ·have e : okW x = true:=by simp [okW]; omega
   rw [e];clear e;go_enter Tryz.func184, Tryz.ntmps184;go_wp2;go_ret;exact ⟨rfl, rfl⟩
theorem idxW_any (w : World) (A : Option Addr) (xs : List Int) (cap : Nat) (hA : Ints w A xs) (hl : xs.length <= 9223372036854775807) :
  Calls Tryz.prog 108 #[.slice A xs.length cap, .func (.func 184) #[] #[]] w fun e w' => e = .returned (.int .i64 (idxP (fun x => !okW x) xs)) /\ w = w':=by
 obtain ⟨n, hn⟩ : ∃ n, n = xs.length:=⟨_, rfl⟩;obtain ⟨R, hR⟩ : ∃ R, R = idxP (fun x => !okW x) xs:=⟨_, rfl⟩;rw [<- hR, <- hn];rw [<- hn] at hl;have HN:=hid hn;have HR:=hid hR;have HA:=hid hA;clear hn hR hA;go_enter Tryz.func108, Tryz.ntmps108;go_wp2;go_loopg [8] n (fun g s8 wr => ∃ j : Nat, j + g = n /\ s8 = .int .i64 j /\ wr = w /\ Aside (∀ i, i < j -> ∀ x, xs[i]? = some x -> okW x = true))
 case atStart => exact ⟨0, by omega, rfl, rfl, fun i hi => absurd hi (by omega)⟩
 case round =>
  obtain ⟨j, hj, rfl, hwr, hall⟩:=hrel;subst wr;cases gk with
  | zero =>
   have hjn : ¬ ((j : Int) < n):=by omega
   have hr : R = -1:=by
    rw [HR.out, idxP];have : xs.findIdx? (fun x => !okW x) = none:=by rw [List.findIdx?_eq_none_iff];intro x hx;obtain ⟨i, hi⟩:=List.getElem?_of_mem hx;have hil:=(List.getElem?_eq_some_iff.1 hi).1;have:=hall.out i (by have:=HN.out; omega) x hi;simp [this]
    rw [this]
   have HRR:=hid hr;clear hr hall;go_wp2;go_ret;rw [HRR.out];exact ⟨rfl, rfl⟩
  | succ g =>
   have hjn : (j : Int) < n:=by omega
   obtain ⟨x, hx⟩ : ∃ x, xs[j]? = some x:=⟨_, getElem?_eq_getElem (by have:=HN.out; omega)⟩;obtain ⟨_, b, off, rfl, _, c0⟩:=HA.out j x hx;have hp:=not_okW x w;obtain ⟨r, hr⟩ : ∃ r, r = okW x:=⟨_, rfl⟩;rw [<- hr] at hp;have HP:=hid hp;have HX:=hid hx;have HRX:=hid hr;clear hp hx hr;cases r
   ·have hres : R = (j : Int):=by
     rw [HR.out, idxP];have : xs.findIdx? (fun x => !okW x) = some j:=by
      rw [List.findIdx?_eq_some_iff_getElem];have hjl:=(List.getElem?_eq_some_iff.1 HX.out).1;refine ⟨hjl, ?_, ?_⟩
      ·have : xs[j] = x:=by have:=HX.out; rw [getElem?_eq_getElem hjl] at this; exact Option.some.inj this
       rw [this, <- HRX.out]; rfl
      ·intro i hi;have:=hall.out i hi _ (getElem?_eq_getElem (by omega));simp [this]
     rw [this]
    have HRR:=hid hres;clear hres hall;go_wp2_with fail;refine HP.out.mono ?_;rintro e w' ⟨rfl, rfl⟩;go_wp2;go_ret;rw [HRR.out];exact ⟨rfl, rfl⟩
   ·have hall2 : Aside (∀ i, i < j + 1 -> ∀ y, xs[i]? = some y -> okW y = true):=by
     intro i hi y hy;by_cases e : i = j
     ·subst e;have:=HX.out;rw [hy] at this;obtain rfl:=Option.some.inj this;exact HRX.out.symm
     ·exact hall.out i (by omega) y hy
    clear hall;go_wp2_with fail;refine HP.out.mono ?_;rintro e w' ⟨rfl, rfl⟩;go_wp2;go_roundg g
    case measure => omega
    case rel => exact ⟨j + 1, by omega, by go_num, rfl, hall2⟩
theorem any_notW (xs : List Int) : (xs.any fun x => !okW x) = !xs.all okW:=by
 induction xs with
 | nil => rfl
 | cons x xs ih => simp only [List.any_cons, List.all_cons, ih, Bool.not_and]
theorem hasW_any (w : World) (A : Option Addr) (xs : List Int) (cap : Nat) (hA : Ints w A xs) (hl : xs.length <= 9223372036854775807) :
  Calls Tryz.prog 77 #[.slice A xs.length cap, .func (.func 184) #[] #[]] w fun e w' => e = .returned (.bool (!xs.all okW)) /\ w = w':=by
 have h:=idxW_any w A xs cap hA hl;have hd:=idxP_any (fun x => !okW x) xs;rw [any_notW] at hd;obtain ⟨R, hR⟩ : ∃ R, R = !xs.all okW:=⟨_, rfl⟩;obtain ⟨i, hi⟩ : ∃ i, i = idxP (fun x => !okW x) xs:=⟨_, rfl⟩;obtain ⟨n, hn⟩ : ∃ n, n = xs.length:=⟨_, rfl⟩;rw [<- hR, <- hn];rw [<- hi, <- hn] at h;rw [<- hi, <- hR] at hd;have H:=hid h;clear h hR hi hn hA hl;cases R
 ·go_enter Tryz.func77, Tryz.ntmps77;go_wp2_with fail;refine H.out.mono ?_;rintro e w' ⟨rfl, rfl⟩;go_wp2;go_ret;exact ⟨rfl, rfl⟩
 ·go_enter Tryz.func77, Tryz.ntmps77;go_wp2_with fail;refine H.out.mono ?_;rintro e w' ⟨rfl, rfl⟩;go_wp2;go_ret;exact ⟨rfl, rfl⟩
def putW (mem : List Int) (p : Nat) (l : List Int) : List Int:=mem.take p ++ (l ++ mem.drop (p + l.length))
theorem putW_nil (mem : List Int) (p : Nat) : putW mem p [] = mem:=by simp [putW]
theorem putW_length (mem : List Int) (p : Nat) (l : List Int) (h : p + l.length <= mem.length) : (putW mem p l).length = mem.length:=by unfold putW; simp; omega
theorem putW_get (mem : List Int) (p : Nat) (l : List Int) (h : p + l.length <= mem.length) (i : Nat) : (putW mem p l)[i]? = if p <= i /\ i < p + l.length then l[i - p]? else mem[i]?:=by
 unfold putW;have h1 : (mem.take p).length = p:=by simp; omega
 by_cases c1 : i < p
 ·rw [getElem?_append_left (by omega), if_neg (by omega), List.getElem?_take, if_pos c1]
 ·rw [getElem?_append_right (by omega), h1];by_cases c2 : i - p < l.length
  ·rw [getElem?_append_left c2, if_pos (by omega)]
  ·rw [getElem?_append_right (by omega), if_neg (by omega), List.getElem?_drop]
   congr 1; omega
theorem putW_step (mem : List Int) (p j : Nat) (l : List Int) (x : Int) (h : p + l.length <= mem.length) (hx : l[j]? = some x) : (putW mem p (l.take j)).set (p + j) x = putW mem p (l.take (j + 1)):=by
 have hj:=(List.getElem?_eq_some_iff.1 hx).1;have e1 : (l.take j).length = j:=by simp; omega
 have e2 : (l.take (j + 1)).length = j + 1:=by simp; omega
 apply List.ext_getElem?
 intro i;rw [List.getElem?_set, putW_get _ _ _ (by omega), putW_get _ _ _ (by omega), putW_length _ _ _ (by omega), e1, e2];by_cases c0 : p + j = i
 ·rw [if_pos c0, if_pos (by omega), if_pos (by omega), List.getElem?_take, if_pos (by omega)];have : i - p = j:=by omega
  rw [this, hx]
 ·rw [if_neg c0];by_cases c1 : p <= i /\ i < p + j
  ·rw [if_pos c1, if_pos (by omega), List.getElem?_take, List.getElem?_take, if_pos (by omega), if_pos (by omega)]
  ·rw [if_neg c1, if_neg (by omega)]
theorem HpMem.setW {w : World} {P : HpP} {mem : List Int} {bs : List Hb} (h : HpMem w P mem bs) (q : Nat) (v : Int) : HpMem (w.setCell ⟨P.m, q, none⟩ (.int .u16 v)) P (mem.set q v) bs:=by
 refine ⟨?_, ?_, ?_, h.apart⟩
 ·rw [length_set]; exact h.head.far (p:=⟨P.m, q, none⟩) h.apart.1 _
 ·have:=h.words.set_ q (.int .u16 v);rw [wCells_set] at this;exact this
 ·refine ⟨h.row.1, h.row.2.imp id ?_⟩;rintro ⟨g, cap, cur, hv, h1, h2, h3⟩;refine ⟨g, cap, cur, hv, h1, (Below.heap_setCell w ⟨P.m, q, none⟩ _ g ?_).trans h2, h3⟩;rintro rfl;have:=congrArg Value.ownBlock hv;unfold HpP.row at this;cases hb : P.b with
  | none => rw [hb] at this; simp [Value.ownBlock] at this
  | some k => rw [hb] at this;simp [Value.ownBlock] at this;exact h.apart.2.2 (by rw [hb, this])
def WritePost (P : HpP) (mem : List Int) (bs : List Hb) (p : Nat) (l : List Int) (w : World) (e : Ending) (w' : World) : Prop :=
 e = .returned (.int .i64 0) /\ HpAt w' P (putW mem p l) bs /\ Only P.set w w'
theorem hpWrite_in (P : HpP) (mem : List Int) (bs : List Hb) (k i : Nat) (x : Hb) (A : Option Addr) (l : List Int) (cap : Nat) (w : World) (h : HpAt w P mem bs) (hk : bs[k]? = some x) (hu : x.used = true) (hi : i + l.length <= x.n)
  (hA : Ints w A l) (hAP : ∀ b off, A = some ⟨b, off, none⟩ -> ¬ P.set b) (hl : ∀ v ∈ l, 0 <= v /\ v <= 65535) :
  Calls Tryz.prog 174 #[.pointer (some ⟨P.h, 0, none⟩), .int .i64 k, .int .i64 i, .slice A l.length cap] w (WritePost P mem bs (x.at_ + i) l w):=by
 have hfit:=h.fit x (mem_of_getElem? hk);have hsz:=h.size;have hct:=h.count;have hok : (!l.all okW) = false:=by simp only [Bool.not_eq_false', List.all_eq_true];intro v hv;have:=hl v hv;simp [okW]; omega
 have hW:=hasW_any w A l cap hA (by omega);rw [hok] at hW;obtain ⟨g, hg⟩:=h.base.gets hk;obtain ⟨d0, d1, d2⟩:=h.base.look hk hg;have c1:=h.head.cell 1;simp only [qTa, qTb, qTc, HpP.row, hg, Option.map_some] at c1;have hlt:=(List.getElem?_eq_some_iff.1 hk).1;obtain ⟨n, hn⟩ : ∃ n, n = l.length:=⟨_, rfl⟩;obtain ⟨a, ha⟩ : ∃ a, a = x.at_:=⟨_, rfl⟩;obtain ⟨q, hq⟩ : ∃ a, a = x.n:=⟨_, rfl⟩;obtain ⟨L, hL⟩ : ∃ a, a = bs.length:=⟨_, rfl⟩;obtain ⟨M, hM⟩ : ∃ a, a = mem.length:=⟨_, rfl⟩;rw [<- hn] at hW hi ⊢;rw [<- ha] at d0 hfit ⊢;rw [<- hq] at d1 hfit hi;rw [<- hL] at c1 hlt hct;rw [<- hM] at hfit hsz;have H:=hid h;have K:=hid hk;have U:=hid hu;have HW:=hid hW;have HA:=hid hA;have HAP:=hid hAP;have HL:=hid hl;have HN:=hid hn;have HA1:=hid ha;have HLL:=hid hL;have HMM:=hid hM;have HG:=hid hg;clear h hk hu hW hA hAP hl hn ha hL hM hok hq hg;go_enter Tryz.func174, Tryz.ntmps174;go_wp2_with fail;refine (hpHas_in _ _ _ _ _ _ H.out.base K.out).mono ?_;rintro e w2 ⟨rfl, rfl⟩;rw [U.out];go_wp2_with fail;refine HW.out.mono ?_;rintro e w2 ⟨rfl, rfl⟩;go_wp2_with fail;have hMl : mem.length = M:=HMM.out.symm;have HMl:=hid hMl;clear d0 d1 d2 c1 hMl;go_loopg [55] n (fun gk s55 wr => ∃ (j : Nat), j + gk = n /\ s55 = .int .i64 j /\ Aside (HpMem wr P (putW mem (a + i) (l.take j)) bs) /\ Only P.set w wr)
 case atStart => exact ⟨0, by omega, rfl, by rw [List.take_zero, putW_nil]; exact H.out.base, Only.refl _ _⟩
 case round =>
  obtain ⟨j, hj, rfl, hM1, hO⟩:=hrel;have HM1 : Hid (HpMem wr P (putW mem (a + i) (l.take j)) bs):=hid hM1.out;cases gk with
  | zero =>
   have hjn : ¬ ((j : Int) < (n : Int)):=by omega
   clear hM1;go_wp2_with fail;go_ret;have e : j = l.length:=by have:=HN.out; omega
   have hM2:=HM1.out;rw [e, List.take_length] at hM2;have hp : a + i + l.length <= mem.length:=by have:=HN.out; have:=HMM.out; omega
   refine ⟨rfl, ⟨hM2.head, hM2.words, hM2.row, hM2.apart, ?_, by rw [putW_length _ _ _ hp]; exact H.out.size, H.out.count, ?_, H.out.disj⟩, hO⟩
   ·intro v hv;unfold putW at hv;rcases List.mem_append.1 hv with hv | hv
    ·exact H.out.vals v (List.mem_of_mem_take hv)
    ·rcases List.mem_append.1 hv with hv | hv
     ·exact HL.out v hv
     ·exact H.out.vals v (List.mem_of_mem_drop hv)
   ·intro y hy;rw [putW_length _ _ _ hp];exact H.out.fit y hy
  | succ g2 =>
   have hjn : (j : Int) < (n : Int):=by omega
   obtain ⟨v, hv⟩ : ∃ v, l[j]? = some v:=⟨_, getElem?_eq_getElem (by have:=HN.out; omega)⟩;obtain ⟨v0, v1⟩:=HL.out v (mem_of_getElem? hv);have hp : a + i + l.length <= mem.length:=by have:=HN.out; have:=HMl.out; omega
   have hlen : (putW mem (a + i) (l.take j)).length = M:=by rw [putW_length _ _ _ (by rw [List.length_take]; omega)]; exact HMl.out
   obtain ⟨_, b0, off0, hAA, _, i0⟩:=(HA.out.only hO HAP.out) j v hv;have hd:=HM1.out.look K.out HG.out;rw [<- HA1.out] at hd;have d0:=hd.1;have c0:=HM1.out.head.cell 0;have c1:=HM1.out.head.cell 1;simp only [qTa, qTb, qTc, HpP.row, HG.out, Option.map_some] at c0 c1;rw [hlen] at c0;rw [<- HLL.out] at c1;have e0:=(HM1.out.words.cell (a + i + j)).trans (wCells_get _ _ (by rw [hlen]; omega));have f0:=HM1.out.words.frozen (a + i + j);obtain ⟨u, hu⟩ : ∃ u, u = (putW mem (a + i) (l.take j)).getD (a + i + j) 0:=⟨_, rfl⟩;rw [<- hu] at e0;have w0 : IntKind.i64.wrap ((a : Int) + (i : Int)) = (a : Int) + (i : Int):=by rw [IntKind.wrap_i64]; omega
   have w1 : IntKind.i64.wrap ((a : Int) + (i : Int) + (j : Int)) = (a : Int) + (i : Int) + (j : Int):=by rw [IntKind.wrap_i64]; omega
   have w2 : IntKind.u16.wrap v = v:=by rw [IntKind.wrap]; simp [IntKind.bits, IntKind.signed]; omega
   have hst:=putW_step mem (a + i) j l v hp hv;have hM2:=HM1.out.setW (a + i + j) v;rw [hst] at hM2;have HM2:=hid hM2;have haM : a + i + j < M:=by omega
   subst hAA;clear hv hp hlen hd hu hst hM2 hM1;go_wp2_with fail;go_region
   all_goals
    go_wp2_with fail;go_roundg g2
    case measure => omega
    case rel => refine ⟨j + 1, by omega, by go_num, ?_, (hO.setCell (p:=⟨P.m, a + i + j, none⟩) (.inl (.inr (.inl rfl))) _).drewN 1⟩;exact HM2.out.only ((Only.refl (fun _ => False) _).drewN 1) (fun _ _ h => h)
structure CInv (mem : List Int) (bs : List Hb) (pre post : List Nat) (mem1 : List Int) (bs1 : List Hb) (e : Nat) : Prop where
 len : bs1.length = bs.length
 lenm : mem1.length = mem.length
 same : ∀ (k : Nat) (x : Hb), bs[k]? = some x -> ∃ y : Hb, bs1[k]? = some y /\ y.used = x.used /\ y.n = x.n /\ (k ∉ pre -> y = x) /\ (x.n = 0 -> y = x)
 ends : ∀ k ∈ pre, ∀ y, Real bs1 k y -> y.at_ + y.n <= e
 next : ∀ k ∈ post, ∀ x, Real bs k x -> e <= x.at_
 cover : ∀ t, t < e -> ∃ j ∈ pre, ∃ y, Real bs1 j y /\ y.at_ <= t /\ t < y.at_ + y.n
 disj : ∀ i ∈ pre, ∀ j ∈ pre, ∀ x y, i ≠ j -> Real bs1 i x -> Real bs1 j y -> x.at_ + x.n <= y.at_ \/ y.at_ + y.n <= x.at_
 tail : ∀ t, e <= t -> mem1[t]? = mem[t]?
 cont : ∀ k ∈ pre, ∀ x y, Real bs k x -> bs1[k]? = some y -> ∀ t, t < x.n -> mem1[y.at_ + t]? = mem[x.at_ + t]?
 vals : ∀ v ∈ mem1, 0 <= v /\ v <= 65535
 in_ : e <= mem.length
theorem CInv.start (mem : List Int) (bs : List Hb) (ks : List Nat) (hv : ∀ v ∈ mem, 0 <= v /\ v <= 65535) : CInv mem bs [] ks mem bs 0 :=
 ⟨rfl, rfl, fun k x hx => ⟨x, hx, rfl, rfl, fun _ => rfl, fun _ => rfl⟩, by simp, fun _ _ _ _ => Nat.zero_le _, fun t ht => by omega, by simp, fun _ _ => rfl, by simp, hv, Nat.zero_le _⟩
theorem CInv.now {mem : List Int} {bs : List Hb} {pre post : List Nat} {mem1 : List Int} {bs1 : List Hb} {e k : Nat} (h : CInv mem bs pre post mem1 bs1 e) (hk : k ∉ pre) {x : Hb} (hx : bs[k]? = some x) : bs1[k]? = some x:=by obtain ⟨y, hy, _, _, h1, _⟩:=h.same k x hx;rw [h1 hk] at hy;exact hy
theorem CInv.skip {mem : List Int} {bs : List Hb} {pre post : List Nat} {mem1 : List Int} {bs1 : List Hb} {e k : Nat} (h : CInv mem bs pre (k :: post) mem1 bs1 e) {x : Hb} (hx : bs[k]? = some x) (h0 : x.n = 0) :
  CInv mem bs (pre ++ [k]) post mem1 bs1 e:=by
 have key : ∀ j ∈ pre ++ [k], ∀ y, Real bs1 j y -> j ∈ pre:=by
  intro j hj y hy;rcases List.mem_append.1 hj with hj | hj
  ·exact hj
  ·simp at hj;subst hj;obtain ⟨y2, hy2, _, h2, _⟩:=h.same j x hx;have:=hy.1.symm.trans hy2;cases this
   have:=hy.2.2;omega
 refine ⟨h.len, h.lenm, ?_, fun j hj y hy => h.ends j (key j hj y hy) y hy, fun j hj => h.next j (List.mem_cons_of_mem _ hj), ?_, ?_, h.tail, ?_, h.vals, h.in_⟩
 ·intro j z hz;obtain ⟨y, hy, h1, h2, h3, h4⟩:=h.same j z hz;exact ⟨y, hy, h1, h2, fun hn => h3 (fun hj => hn (List.mem_append_left _ hj)), h4⟩
 ·intro t ht;obtain ⟨j, hj, r⟩:=h.cover t ht;exact ⟨j, List.mem_append_left _ hj, r⟩
 ·intro i hi j hj z y hij hz hy;exact h.disj i (key i hi z hz) j (key j hj y hy) z y hij hz hy
 ·intro j hj z y hz hy t ht;rcases List.mem_append.1 hj with hj | hj
  ·exact h.cont j hj z y hz hy t ht
  ·simp at hj;subst hj;have:=hz.1.symm.trans hx;cases this
   omega
theorem CInv.step {mem : List Int} {bs : List Hb} {pre post : List Nat} {mem1 mem2 : List Int} {bs1 bs2 : List Hb} {e k : Nat} (h : CInv mem bs pre (k :: post) mem1 bs1 e) (hL : Lay bs mem.length)
  (hA : Asc (plc bs) 0 (pre ++ k :: post).length (pre ++ k :: post)) (hn : (pre ++ k :: post).Nodup) {x : Hb} (hx : Real bs k x)
  (hb : ∀ j, bs2[j]? = if j = k then some { x with at_:=e } else bs1[j]?) (hm : ∀ t, mem2[t]? = if e <= t /\ t < e + x.n then mem1[x.at_ + (t - e)]? else mem1[t]?) (hlm : mem2.length = mem1.length) (hlb : bs2.length = bs1.length) :
  CInv mem bs (pre ++ [k]) post mem2 bs2 (e + x.n):=by
 have hkpre : k ∉ pre:=fun hj => (List.nodup_append.1 hn).2.2 k hj k (by simp) rfl;have hex : e <= x.at_:=h.next k (by simp) x hx
 have hfit:=hL.fit x (mem_of_getElem? hx.1);have hx0:=hx.2.2;have hnext : ∀ j ∈ post, ∀ z, Real bs j z -> x.at_ + x.n <= z.at_:=by
  intro j hj z hz;obtain ⟨i, hi⟩:=List.getElem?_of_mem hj;have hil:=(List.getElem?_eq_some_iff.1 hi).1;have h1 : (pre ++ k :: post)[pre.length + 1 + i]? = some j:=by
   rw [getElem?_append_right (by omega)];have : pre.length + 1 + i - pre.length = i + 1:=by omega
   rw [this]; exact hi
  have h2 : (pre ++ k :: post)[pre.length]? = some k:=by simp
  have hle:=hA pre.length (pre.length + 1 + i) k j (Nat.zero_le _) (by omega) (by simp; omega) h2 h1;rw [plc_of hx.1, plc_of hz.1] at hle;have hne : k ≠ j:=by rintro rfl;have:=(List.nodup_append.1 hn).2.1;exact (List.nodup_cons.1 this).1 hj
  have:=hL.disj k j x z hx.1 hz.1 hne hx.2.1 hz.2.1 hx.2.2 hz.2.2;have:=hz.2.2;omega
 have real : ∀ j ∈ pre, ∀ y, Real bs2 j y -> Real bs1 j y:=by intro j hj y hy;have e1 : j ≠ k:=fun e => hkpre (e ▸ hj);have:=hy.1;rw [hb, if_neg e1] at this;exact ⟨this, hy.2⟩
 have reak : ∀ y, Real bs2 k y -> y = { x with at_:=e }:=by intro y hy;have:=hy.1;rw [hb, if_pos rfl] at this;exact (Option.some.inj this).symm
 refine ⟨hlb.trans h.len, hlm.trans h.lenm, ?_, ?_, ?_, ?_, ?_, ?_, ?_, ?_, by omega⟩
 ·intro j z hz;by_cases ej : j = k
  ·subst ej;have:=hz.symm.trans hx.1;cases this
   exact ⟨{ x with at_:=e }, by rw [hb, if_pos rfl], rfl, rfl, fun hn => absurd (by simp) hn, fun h0 => by omega⟩
  ·obtain ⟨y, hy, h1, h2, h3, h4⟩:=h.same j z hz;exact ⟨y, by rw [hb, if_neg ej]; exact hy, h1, h2, fun hn => h3 (fun hj => hn (List.mem_append_left _ hj)), h4⟩
 ·intro j hj y hy;rcases List.mem_append.1 hj with hj | hj
  ·have:=h.ends j hj y (real j hj y hy); omega
  ·simp at hj; subst hj; rw [reak y hy]; exact Nat.le_refl _
 ·intro j hj z hz;have:=hnext j hj z hz;omega
 ·intro t ht;by_cases hte : t < e
  ·obtain ⟨j, hj, y, hy, h1⟩:=h.cover t hte;have e1 : j ≠ k:=fun e => hkpre (e ▸ hj);exact ⟨j, List.mem_append_left _ hj, y, ⟨by rw [hb, if_neg e1]; exact hy.1, hy.2⟩, h1⟩
  ·exact ⟨k, by simp, { x with at_:=e }, ⟨by rw [hb, if_pos rfl], hx.2.1, hx0⟩, by show e <= t; omega, ht⟩
 ·intro i hi j hj z y hij hz hy;rcases List.mem_append.1 hi with hi2 | hi2
  ·rcases List.mem_append.1 hj with hj2 | hj2
   ·exact h.disj i hi2 j hj2 z y hij (real i hi2 z hz) (real j hj2 y hy)
   ·simp at hj2; subst hj2;rw [reak y hy];exact .inl (h.ends i hi2 z (real i hi2 z hz))
  ·simp at hi2; subst hi2;rw [reak z hz];rcases List.mem_append.1 hj with hj2 | hj2
   ·exact .inr (h.ends j hj2 y (real j hj2 y hy))
   ·simp at hj2; subst hj2; exact absurd rfl hij
 ·intro t ht;rw [hm, if_neg (by omega)];exact h.tail t (by omega)
 ·intro j hj z y hz hy t ht;rcases List.mem_append.1 hj with hj | hj
  ·have e1 : j ≠ k:=fun e => hkpre (e ▸ hj);rw [hb, if_neg e1] at hy;obtain ⟨y2, hy2, h1, h2, _⟩:=h.same j z hz.1;have:=hy.symm.trans hy2;cases this
   have hend:=h.ends j hj y ⟨hy, by rw [h1]; exact hz.2.1, by rw [h2]; exact hz.2.2⟩;rw [hm, if_neg (by omega)];exact h.cont j hj z y hz hy t ht
  ·simp at hj; subst hj;have:=hz.1.symm.trans hx.1;cases this
   rw [hb, if_pos rfl] at hy;cases hy
   show mem2[e + t]? = _
   rw [hm, if_pos (by omega)];have e1 : e + t - e = t:=by omega
   rw [e1];exact h.tail _ (by omega)
 ·intro v hv;obtain ⟨t, ht⟩:=List.getElem?_of_mem hv;rw [hm] at ht;split at ht
  ·exact h.vals v (mem_of_getElem? ht)
  ·exact h.vals v (mem_of_getElem? ht)
structure Compacted (mem : List Int) (bs : List Hb) (mem1 : List Int) (bs1 : List Hb) : Prop where
 len : bs1.length = bs.length
 lenm : mem1.length = mem.length
 packed : Packed bs1
 same : ∀ (k : Nat) (x : Hb), bs[k]? = some x -> ∃ y : Hb, bs1[k]? = some y /\ y.used = x.used /\ y.n = x.n /\ (x.used = true -> ∀ t, t < x.n -> mem1[y.at_ + t]? = mem[x.at_ + t]?)
theorem CInv.done {w w' : World} {P : HpP} {mem : List Int} {bs : List Hb} {ks : List Nat} {mem1 : List Int} {bs1 : List Hb} {e : Nat} (h : CInv mem bs ks [] mem1 bs1 e) (hO : Ordd bs ks) (H : HpAt w P mem bs) (hM : HpMem w' P mem1 bs1) :
  HpAt w' P mem1 bs1 /\ Compacted mem bs mem1 bs1:=by
 have back : ∀ (k : Nat) (y : Hb), bs1[k]? = some y -> ∃ x : Hb, bs[k]? = some x /\ y.used = x.used /\ y.n = x.n /\ (k ∉ ks -> y = x) /\ (x.n = 0 -> y = x):=by
  intro k y hy;have hk:=(List.getElem?_eq_some_iff.1 hy).1;rw [h.len] at hk;have hx:=getElem?_eq_getElem hk;obtain ⟨y2, hy2, r⟩:=h.same k _ hx;have:=hy.symm.trans hy2;cases this
  exact ⟨_, hx, r⟩
 have inks : ∀ (k : Nat) (x : Hb), bs[k]? = some x -> x.used = true -> k ∈ ks:=by intro k x hx hu;refine hO.perm.mem_iff.2 (List.mem_filter.2 ⟨List.mem_range.2 (List.getElem?_eq_some_iff.1 hx).1, ?_⟩);unfold usedAt;rw [hx]; exact hu
 have inr_ : ∀ k y, Real bs1 k y -> k ∈ ks:=by intro k y hy;obtain ⟨x, hx, h1, _⟩:=back k y hy.1;exact inks k x hx (by rw [<- h1]; exact hy.2.1)
 refine ⟨⟨hM.head, hM.words, hM.row, hM.apart, h.vals, by rw [h.lenm]; exact H.size, by rw [h.len]; exact H.count, ?_, ?_⟩, h.len, h.lenm, ?_, ?_⟩
 ·intro y hy;obtain ⟨k, hk⟩:=List.getElem?_of_mem hy;obtain ⟨x, hx, h1, h2, h3, h4⟩:=back k y hk;rw [h.lenm];by_cases hr : y.used = true /\ 0 < y.n
  ·have:=h.ends k (inr_ k y ⟨hk, hr⟩) y ⟨hk, hr⟩;have:=h.in_;omega
  ·have e1 : y = x:=by
    by_cases hu : y.used = true
    ·exact h4 (by have : ¬ 0 < y.n:=fun h => hr ⟨hu, h⟩; omega)
    ·refine h3 (fun hkk => hu ?_);have:=(hO.lt k hkk).2;unfold usedAt at this;rw [hx] at this;rw [h1]; exact this
   rw [e1];exact H.fit x (mem_of_getElem? hx)
 ·intro i j x y hi hj hij hx hy hx0 hy0;exact h.disj i (inr_ i x ⟨hi, hx, hx0⟩) j (inr_ j y ⟨hj, hy, hy0⟩) x y hij ⟨hi, hx, hx0⟩ ⟨hj, hy, hy0⟩
 ·intro k x t hx ht;have:=h.ends k (inr_ k x hx) x hx;obtain ⟨j, _, y, hy, h1⟩:=h.cover t (by omega);exact ⟨j, y, hy, h1⟩
 ·intro k x hx;obtain ⟨y, hy, h1, h2, h3, h4⟩:=h.same k x hx;refine ⟨y, hy, h1, h2, fun hu t ht => ?_⟩;exact h.cont k (inks k x hx hu) x y ⟨hx, hu, by omega⟩ hy t ht
end Go.Proofs.YtgaemfghpibeeaaGreatDoor
