/- The walk of PermAsks, case C. -/
import Derived.Test.YtjebnceajpkhmaaDoorAsks0
namespace Go.Proofs.YtjebnceajpkhmaaDoor
open Go.RowKit

set_option maxRecDepth 100000 in
set_option maxHeartbeats 4000000 in
theorem asks_C (A : Nat → Addr) (ao ap : Option Addr) (n c m c' K L : Nat) (f q : Nat → Int) (w : World) (hn : n ≤ 1048576) (hm : m ≤ 1048576) (hf : ∀ i, i < n → -9223372036854775808 ≤ f i ∧ f i ≤ 9223372036854775807)
    (hq : ∀ i, i < m → -9223372036854775808 ≤ q i ∧ q i ≤ 9223372036854775807) (hF : Fits n f K) (hQ : Fits m q L) (hA : Arg w (.slice ao n c) n f) (hR : Row w ao n f) (hP : Row w ap m q) (hE : Errs errL A w) (hlt : ¬ K < n) (hkn : K = n) (hlm : L = m) (hne : n ≠ m) :
    Calls Tryd.prog 5 #[.slice ao n c, .slice ap m c'] w fun e w' => e = .returned (.bool true) ∧ Below w.heap.size w w' := by
  have HF := Lib.hid hF
  have HQ := Lib.hid hQ
  have HV := Lib.hid hf
  have HU := Lib.hid hq
  have HA := Lib.hid hA
  have HR := Lib.hid hR
  have HP := Lib.hid hP
  have HE := Lib.hid hE
  clear hF hQ hf hq hA hR hP hE
  have hlt' := hlt
  have HKN := Lib.hid hkn; clear hkn
  have HLM := Lib.hid hlm; clear hlm
  have HNE := Lib.hid hne; clear hne
  go_enter Tryd.func5, Tryd.ntmps5
  go_wp2_with fail
  refine (lives_any A w (gl A HE.out)).mono ?_
  rintro e w1 ⟨rfl, hb⟩
  have HB1 := Lib.hid hb
  clear hb
  go_wp2_with fail
  refine (spare w1 (by omega) (HA.out.below HB1.out)).mono ?_
  rintro e w2 ⟨G, rfl, hI, hlo, hlt2, hb2⟩
  have hb2 : Below w.heap.size w w2 := HB1.out.trans (hb2.mono HB1.out.size)
  have HI2 := Lib.hid hI
  have HB2 := Lib.hid hb2
  clear hI hlo hlt2 hb2 HB1
  go_wp2_with fail
  refine (check_any A (some ⟨G, 0, none⟩) n (n + 80) f w2 (by omega) HV.out K HF.out (.inr ⟨G, 0, rfl, HI2.out.part (by omega) (fun i hi => by simp [full, hi])⟩) (gl A (HE.out.below HB2.out))).mono ?_
  rintro e w3 ⟨rfl, hb⟩
  have hI := HI2.out.below hb
  have hb3 : Below w.heap.size w w3 := HB2.out.trans (hb.mono HB2.out.size)
  have HB3 := Lib.hid hb3
  have HI3 := Lib.hid hI
  clear hb hb3 hI HB2 HI2
  rw [OutC, if_neg hlt']
  go_wp2_with fail
  refine (num_nil w3).mono ?_
  rintro e w4 ⟨rfl, hb⟩
  have hI := HI3.out.below hb
  have hb4 : Below w.heap.size w w4 := HB3.out.trans (hb.mono HB3.out.size)
  have HB4 := Lib.hid hb4
  have HI4 := Lib.hid hI
  clear hb hb4 hI HB3 HI3
  go_wp2_with fail
  refine (refcheck_any ao n c f w4 (by omega) HV.out K HF.out (HR.out.below HB4.out)).mono ?_
  rintro e w5 ⟨rfl, hb⟩
  have hI := HI4.out.below hb
  have hb5 : Below w.heap.size w w5 := HB4.out.trans (hb.mono HB4.out.size)
  have HB5 := Lib.hid hb5
  have HI5 := Lib.hid hI
  clear hb hb5 hI HB4 HI4
  rw [OutK, if_neg hlt']
  go_wp2_with fail
  refine (inverse_any A (some ⟨G, 0, none⟩) n (n + 80) f w5 (by omega) HV.out K HF.out (.inr ⟨G, 0, rfl, HI5.out.part (by omega) (fun i hi => by simp [full, hi])⟩) (gl A (HE.out.below HB5.out))).mono ?_
  intro e w6 ho
  obtain ⟨hb, X1, rfl, hx1⟩ := ho.good HKN.out
  have hI := HI5.out.below hb
  have hb6 : Below w.heap.size w w6 := HB5.out.trans (hb.mono HB5.out.size)
  have HB6 := Lib.hid hb6
  have HI6 := Lib.hid hI
  clear hb hb6 hI HB5 HI5
  have HX1 := Lib.hid hx1
  clear hx1
  go_wp2_with fail
  refine (refinv_any ao n c f w6 (by omega) HV.out K HF.out (HR.out.below HB6.out)).mono ?_
  intro e w7 ho
  obtain ⟨hb, X2, rfl, hx2⟩ := ho.good HKN.out
  have hx1' := HX1.out.below hb
  have hI := HI6.out.below hb
  have hb7 : Below w.heap.size w w7 := HB6.out.trans (hb.mono HB6.out.size)
  have HB7 := Lib.hid hb7
  have HI7 := Lib.hid hI
  clear hb hb7 hI HB6 HI6
  clear HX1
  have HX1 := Lib.hid hx1'
  clear hx1'
  have HX2 := Lib.hid hx2
  clear hx2
  go_wp2_with fail
  refine (same_rows (f := ix f n) w7 (by omega) (.inr ⟨X1, 0, rfl, HX1.out⟩) (.inr ⟨X2, 0, rfl, HX2.out⟩)).mono ?_
  rintro e w8 ⟨rfl, hb⟩
  have hx1' := HX1.out.below hb
  have hx2' := HX2.out.below hb
  have hI := HI7.out.below hb
  have hb8 : Below w.heap.size w w8 := HB7.out.trans (hb.mono HB7.out.size)
  have HB8 := Lib.hid hb8
  have HI8 := Lib.hid hI
  clear hb hb8 hI HB7 HI7
  clear HX1
  have HX1 := Lib.hid hx1'
  clear hx1'
  clear HX2
  have HX2 := Lib.hid hx2'
  clear hx2'
  clear HX1
  clear HX2
  go_wp2_with fail
  refine (num_nil w8).mono ?_
  rintro e w9 ⟨rfl, hb⟩
  have hI := HI8.out.below hb
  have hb9 : Below w.heap.size w w9 := HB8.out.trans (hb.mono HB8.out.size)
  have HB9 := Lib.hid hb9
  have HI9 := Lib.hid hI
  clear hb hb9 hI HB8 HI8
  go_wp2_with fail
  refine (after_any A (some ⟨G, 0, none⟩) ap n (n + 80) m c' f q w9 (by omega) (by omega) HV.out HU.out K L HF.out HQ.out (.inr ⟨G, 0, rfl, HI9.out.part (by omega) (fun i hi => by simp [full, hi])⟩) (HP.out.below HB9.out) (gl A (HE.out.below HB9.out))).mono ?_
  intro e w10 ho
  obtain ⟨hb, X3, rfl⟩ := ho.len HKN.out HLM.out HNE.out
  have hI := HI9.out.below hb
  have hb10 : Below w.heap.size w w10 := HB9.out.trans (hb.mono HB9.out.size)
  have HB10 := Lib.hid hb10
  have HI10 := Lib.hid hI
  clear hb hb10 hI HB9 HI9
  unfold er
  go_wp2_with fail
  refine (refafter_any ao ap n c m c' f q w10 (by omega) (by omega) (by omega) HV.out HU.out K L HF.out HQ.out (HR.out.below HB10.out) (HP.out.below HB10.out)).mono ?_
  intro e w11 ho
  obtain ⟨hb, X4, rfl⟩ := ho.len HKN.out HLM.out HNE.out
  have hI := HI10.out.below hb
  have hb11 : Below w.heap.size w w11 := HB10.out.trans (hb.mono HB10.out.size)
  have HB11 := Lib.hid hb11
  have HI11 := Lib.hid hI
  clear hb hb11 hI HB10 HI10
  go_wp2_with fail
  refine (same_zero _ _ _ _ w11).mono ?_
  rintro e w12 ⟨rfl, hb⟩
  have hI := HI11.out.below hb
  have hb12 : Below w.heap.size w w12 := HB11.out.trans (hb.mono HB11.out.size)
  have HB12 := Lib.hid hb12
  have HI12 := Lib.hid hI
  clear hb hb12 hI HB11 HI11
  go_wp2_with fail
  refine (num_err A 6 (by omega) w12 (HE.out.below HB12.out)).mono ?_
  rintro e w13 ⟨rfl, hb⟩
  have hI := HI12.out.below hb
  have hb13 : Below w.heap.size w w13 := HB12.out.trans (hb.mono HB12.out.size)
  have HB13 := Lib.hid hb13
  have HI13 := Lib.hid hI
  clear hb hb13 hI HB12 HI12
  go_wp2_with fail
  refine (sign_any A (some ⟨G, 0, none⟩) n (n + 80) f w13 hn HV.out K HF.out (.inr ⟨G, 0, rfl, HI13.out.part (by omega) (fun i hi => by simp [full, hi])⟩) (gl A (HE.out.below HB13.out))).mono ?_
  rintro e w14 ⟨rfl, hb⟩
  have hI := HI13.out.below hb
  have hb14 : Below w.heap.size w w14 := HB13.out.trans (hb.mono HB13.out.size)
  have HB14 := Lib.hid hb14
  have HI14 := Lib.hid hI
  clear hb hb14 hI HB13 HI13
  rw [if_neg hlt']
  go_wp2_with fail
  refine (refsign_any ao n c f w14 hn HV.out K HF.out (HR.out.below HB14.out)).mono ?_
  rintro e w15 ⟨rfl, hb⟩
  have hI := HI14.out.below hb
  have hb15 : Below w.heap.size w w15 := HB14.out.trans (hb.mono HB14.out.size)
  have HB15 := Lib.hid hb15
  have HI15 := Lib.hid hI
  clear hb hb15 hI HB14 HI14
  rw [if_neg hlt']
  go_wp2_with fail
  refine (num_nil w15).mono ?_
  rintro e w16 ⟨rfl, hb⟩
  have hI := HI15.out.below hb
  have hb16 : Below w.heap.size w w16 := HB15.out.trans (hb.mono HB15.out.size)
  have HB16 := Lib.hid hb16
  have HI16 := Lib.hid hI
  clear hb hb16 hI HB15 HI15
  go_wp2_with fail
  refine (lawcycles_any A (some ⟨G, 0, none⟩) n (n + 80) f w16 hn HV.out K HF.out (.inr ⟨G, 0, rfl, HI16.out.part (by omega) (fun i hi => by simp [full, hi])⟩) (gl A (HE.out.below HB16.out))).mono ?_
  intro e w17 ho
  obtain ⟨hb, X5, c5, rfl, hx5, hm5⟩ := ho.good HKN.out
  have hI := HI16.out.below hb
  have hb17 : Below w.heap.size w w17 := HB16.out.trans (hb.mono HB16.out.size)
  have HB17 := Lib.hid hb17
  have HI17 := Lib.hid hI
  clear hb hb17 hI HB16 HI16
  have HX5 := Lib.hid hx5
  clear hx5
  go_wp2_with fail
  refine (refcycles_any ao n c f w17 hn HV.out K HF.out (HR.out.below HB17.out)).mono ?_
  intro e w18 ho
  obtain ⟨v6, rfl, -, hgood, hb⟩ := ho; obtain ⟨X6, c6, rfl, hx6, -⟩ := (hgood HKN.out).rows
  have hx5' := HX5.out.below hb
  have hI := HI17.out.below hb
  have hb18 : Below w.heap.size w w18 := HB17.out.trans (hb.mono HB17.out.size)
  have HB18 := Lib.hid hb18
  have HI18 := Lib.hid hI
  clear hb hb18 hI HB17 HI17
  clear HX5
  have HX5 := Lib.hid hx5'
  clear hx5'
  have HX6 := Lib.hid hx6
  clear hx6
  clear hgood
  go_wp2_with fail
  refine (same_lists _ _ _ _ _ _ _ w18 hm5 HX5.out HX6.out).mono ?_
  rintro e w19 ⟨rfl, hb⟩
  have hx5' := HX5.out.below hb
  have hx6' := HX6.out.below hb
  have hI := HI18.out.below hb
  have hb19 : Below w.heap.size w w19 := HB18.out.trans (hb.mono HB18.out.size)
  have HB19 := Lib.hid hb19
  have HI19 := Lib.hid hI
  clear hb hb19 hI HB18 HI18
  clear HX5
  have HX5 := Lib.hid hx5'
  clear hx5'
  clear HX6
  have HX6 := Lib.hid hx6'
  clear hx6'
  clear HX5
  clear HX6
  go_wp2_with fail
  refine (kept_at G n _ ao c f w19 (by omega) HI19.out (HR.out.below HB19.out)).mono ?_
  rintro e w20 ⟨rfl, hb⟩
  have hI := HI19.out.below hb
  have hb20 : Below w.heap.size w w20 := HB19.out.trans (hb.mono HB19.out.size)
  have HB20 := Lib.hid hb20
  have HI20 := Lib.hid hI
  clear hb hb20 hI HB19 HI19
  go_wp2_with fail
  go_ret
  exact ⟨rfl, HB20.out⟩
end Go.Proofs.YtjebnceajpkhmaaDoor
