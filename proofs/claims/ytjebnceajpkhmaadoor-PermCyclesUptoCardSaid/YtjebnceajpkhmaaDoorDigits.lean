/- The walk of PermDigits: it returns true. -/
import Derived.Test.YtjebnceajpkhmaaDoorLives
namespace Go.Proofs.YtjebnceajpkhmaaDoor
open Go.RowKit

theorem Arg.below {w w' : World} {v : Value} {n : Nat} {f : Nat → Int} (h : Arg w v n f) (hb : Below w.heap.size w w') : Arg w' v n f := by
  rcases h with h | h | ⟨b, off, c, rfl, h⟩
  · exact .inl h
  · exact .inr (.inl h)
  · exact .inr (.inr ⟨b, off, c, rfl, h.below hb⟩)
theorem Arg.row {w : World} {v : Value} {n : Nat} {f : Nat → Int} (h : Arg w v n f) : ∃ ao c, v = .slice ao n c ∧ Row w ao n f ∧ Arg w (.slice ao n c) n f := by
  rcases h with ⟨rfl, rfl⟩ | ⟨p, c, rfl, rfl⟩ | ⟨b, off, c, rfl, h⟩
  · exact ⟨none, 0, rfl, .inl rfl, .inl ⟨rfl, rfl⟩⟩
  · exact ⟨some p, c, rfl, .inl rfl, .inr (.inl ⟨p, c, rfl, rfl⟩)⟩
  · exact ⟨_, c, rfl, .inr ⟨b, off, rfl, h⟩, .inr (.inr ⟨b, off, c, rfl, h⟩)⟩
theorem Ints.part {w : World} {b off n m : Nat} {f g : Nat → Int} (h : Ints w b off m g) (hn : n ≤ m) (he : ∀ i, i < n → g i = f i) : Ints w b off n f := fun i hi => by
  rw [← he i hi]; exact h i (by omega)

set_option maxRecDepth 100000 in
theorem digits_walk (A : Nat → Addr) (v : Value) (n : Nat) (f : Nat → Int) (w : World) (hn : n ≤ 17592186044416) (hf : ∀ i, i < n → -9223372036854775808 ≤ f i ∧ f i ≤ 9223372036854775807) (h : Arg w v n f) (hE : Errs errL A w) :
    Calls Tryd.prog 3 #[v] w fun e w' => e = .returned (.bool true) ∧ Below w.heap.size w w' := by
  obtain ⟨K1, K2, hF⟩ := facts n f
  obtain ⟨ao, c, rfl, hR, hA⟩ := h.row
  have HF := Lib.hid hF
  have HV := Lib.hid hf
  have HR := Lib.hid hR
  have HA := Lib.hid hA
  have HE := Lib.hid hE
  clear hF hf hR hA hE h
  go_enter Tryd.func3, Tryd.ntmps3
  go_wp2_with fail
  refine (lives_any A w (gl A HE.out)).mono ?_
  rintro e w1 ⟨rfl, hb1⟩
  have HB1 := Lib.hid hb1
  clear hb1
  go_wp2_with fail
  refine (spare w1 hn (HA.out.below HB1.out)).mono ?_
  rintro e w2 ⟨G, rfl, hI, hlo, hlt, hb2⟩
  have hb2 : Below w.heap.size w w2 := HB1.out.trans (hb2.mono HB1.out.size)
  have HI := Lib.hid hI
  have HB2 := Lib.hid hb2
  clear hI hlo hlt hb2
  go_wp2_with fail
  refine (digits_any A (some ⟨G, 0, none⟩) n (n + 80) f w2 hn HV.out K1 K2 HF.out (.inr ⟨G, 0, rfl, HI.out.part (by omega) (fun i hi => by simp [full, hi])⟩) (gl A (HE.out.below HB2.out))).mono ?_
  rintro e w3 ⟨hb3, ho3⟩
  have hI3 := HI.out.below hb3
  have hb3 : Below w.heap.size w w3 := HB2.out.trans (hb3.mono HB2.out.size)
  have HI3 := Lib.hid hI3
  have HB3 := Lib.hid hb3
  clear hI3 hb3 HI HB2 HB1
  rcases ho3 with ⟨hk1, rfl⟩ | ⟨hk1, hk2, rfl⟩ | ⟨hk1, hk2, X, rfl, hX, -, -⟩
  · unfold er
    go_wp2_with fail
    refine (refdig_any ao n c f w3 hn HV.out K1 K2 HF.out (HR.out.below HB3.out)).mono ?_
    rintro e w4 ⟨hb4, ⟨hk1', X', rfl⟩ | ⟨hk1', -⟩ | ⟨hk1', -⟩⟩
    · have hI4 := HI3.out.below hb4
      have hb4 : Below w.heap.size w w4 := HB3.out.trans (hb4.mono HB3.out.size)
      have HI4 := Lib.hid hI4
      have HB4 := Lib.hid hb4
      clear hI4 hb4 HI3 HB3
      go_wp2_with fail
      refine (same_zero _ _ _ _ w4).mono ?_
      rintro e w5 ⟨rfl, hb5⟩
      have hI5 := HI4.out.below hb5
      have hb5 : Below w.heap.size w w5 := HB4.out.trans (hb5.mono HB4.out.size)
      have HI5 := Lib.hid hI5
      have HB5 := Lib.hid hb5
      clear hI5 hb5 HI4 HB4
      go_wp2_with fail
      refine (num_err A 4 (by omega) w5 (HE.out.below HB5.out)).mono ?_
      rintro e w6 ⟨rfl, hb6⟩
      have hI6 := HI5.out.below hb6
      have hb6 : Below w.heap.size w w6 := HB5.out.trans (hb6.mono HB5.out.size)
      have HI6 := Lib.hid hI6
      have HB6 := Lib.hid hb6
      clear hI6 hb6 HI5 HB5
      go_wp2_with fail
      refine (kept_at G n _ ao c f w6 hn HI6.out (HR.out.below HB6.out)).mono ?_
      rintro e w7 ⟨rfl, hb7⟩
      have hb7 : Below w.heap.size w w7 := HB6.out.trans (hb7.mono HB6.out.size)
      have HB7 := Lib.hid hb7
      clear hb7
      go_wp2_with fail
      go_ret
      exact ⟨rfl, HB7.out⟩
    · exact absurd hk1' (by omega)
    · exact absurd hk1' (by omega)
  · unfold er
    go_wp2_with fail
    refine (refdig_any ao n c f w3 hn HV.out K1 K2 HF.out (HR.out.below HB3.out)).mono ?_
    rintro e w4 ⟨hb4, ⟨hk1', -⟩ | ⟨-, hk2', X', rfl⟩ | ⟨-, hk2', -⟩⟩
    · exact absurd hk1' (by omega)
    · have hI4 := HI3.out.below hb4
      have hb4 : Below w.heap.size w w4 := HB3.out.trans (hb4.mono HB3.out.size)
      have HI4 := Lib.hid hI4
      have HB4 := Lib.hid hb4
      clear hI4 hb4 HI3 HB3
      go_wp2_with fail
      refine (same_zero _ _ _ _ w4).mono ?_
      rintro e w5 ⟨rfl, hb5⟩
      have hI5 := HI4.out.below hb5
      have hb5 : Below w.heap.size w w5 := HB4.out.trans (hb5.mono HB4.out.size)
      have HI5 := Lib.hid hI5
      have HB5 := Lib.hid hb5
      clear hI5 hb5 HI4 HB4
      go_wp2_with fail
      refine (num_err A 6 (by omega) w5 (HE.out.below HB5.out)).mono ?_
      rintro e w6 ⟨rfl, hb6⟩
      have hI6 := HI5.out.below hb6
      have hb6 : Below w.heap.size w w6 := HB5.out.trans (hb6.mono HB5.out.size)
      have HI6 := Lib.hid hI6
      have HB6 := Lib.hid hb6
      clear hI6 hb6 HI5 HB5
      go_wp2_with fail
      refine (kept_at G n _ ao c f w6 hn HI6.out (HR.out.below HB6.out)).mono ?_
      rintro e w7 ⟨rfl, hb7⟩
      have hb7 : Below w.heap.size w w7 := HB6.out.trans (hb7.mono HB6.out.size)
      have HB7 := Lib.hid hb7
      clear hb7
      go_wp2_with fail
      go_ret
      exact ⟨rfl, HB7.out⟩
    · exact absurd hk2' (by omega)
  · have HX := Lib.hid hX
    clear hX
    have hm : (Pr f n).toNat ≤ 16384 := by
      have := (HF.out.pr hk1 n (by omega)).2
      omega
    revert HX hm
    have HM := Lib.hid (rfl : (Pr f n).toNat = (Pr f n).toNat)
    revert HM
    generalize hM : (Pr f n).toNat = M
    intro HM HX hm
    clear HM
    have HMM := Lib.hid hM
    clear hM
    go_wp2_with fail
    refine (refdig_any ao n c f w3 hn HV.out K1 K2 HF.out (HR.out.below HB3.out)).mono ?_
    rintro e w4 ⟨hb4, ⟨hk1', -⟩ | ⟨-, hk2', -⟩ | ⟨-, -, ao', c', rfl, hX'⟩⟩
    · exact absurd hk1' (by omega)
    · exact absurd hk2' (by omega)
    · rw [HMM.out] at hX' ⊢
      have hXX := HX.out.below hb4
      have hI4 := HI3.out.below hb4
      have hb4 : Below w.heap.size w w4 := HB3.out.trans (hb4.mono HB3.out.size)
      have HI4 := Lib.hid hI4
      have HB4 := Lib.hid hb4
      have HX' := Lib.hid hX'
      have HXX := Lib.hid hXX
      clear hI4 hb4 HI3 HB3 hX' hXX HX
      go_wp2_with fail
      refine (same_rows (f := dig n f) w4 (by omega) (.inr ⟨X, 0, rfl, HXX.out⟩) HX'.out).mono ?_
      rintro e w5 ⟨rfl, hb5⟩
      have hI5 := HI4.out.below hb5
      have hb5 : Below w.heap.size w w5 := HB4.out.trans (hb5.mono HB4.out.size)
      have HI5 := Lib.hid hI5
      have HB5 := Lib.hid hb5
      clear hI5 hb5 HI4 HB4
      go_wp2_with fail
      refine (num_nil w5).mono ?_
      rintro e w6 ⟨rfl, hb6⟩
      have hI6 := HI5.out.below hb6
      have hb6 : Below w.heap.size w w6 := HB5.out.trans (hb6.mono HB5.out.size)
      have HI6 := Lib.hid hI6
      have HB6 := Lib.hid hb6
      clear hI6 hb6 HI5 HB5
      go_wp2_with fail
      refine (kept_at G n _ ao c f w6 hn HI6.out (HR.out.below HB6.out)).mono ?_
      rintro e w7 ⟨rfl, hb7⟩
      have hb7 : Below w.heap.size w w7 := HB6.out.trans (hb7.mono HB6.out.size)
      have HB7 := Lib.hid hb7
      clear hb7
      go_wp2_with fail
      go_ret
      exact ⟨rfl, HB7.out⟩
end Go.Proofs.YtjebnceajpkhmaaDoor
