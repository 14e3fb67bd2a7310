/- What the law's own Digits answers. -/
import Derived.Test.YtjebnceajpkhmaaDoorDig2
namespace Go.Proofs.YtjebnceajpkhmaaDoor
open Go.RowKit

/-- A list that is being told: v holds the k numbers g, in memory of its own. -/
def Told (B : Nat) (w : World) (v : Value) (k : Nat) (g : Nat → Int) : Prop := w.ownsRow B 3 1 v k (ints k g)
theorem Told.row {B : Nat} {w : World} {v : Value} {k : Nat} {g : Nat → Int} (h : Told B w v k g) : ∃ ao c, v = .slice ao k c ∧ Row w ao k g := by
  rcases h.2 with ⟨rfl, rfl⟩ | ⟨g', cap, cur, rfl, h1⟩
  · exact ⟨none, 0, rfl, .inl rfl⟩
  · refine ⟨_, _, rfl, .inr ⟨g', 0, rfl, ?_⟩⟩
    exact Own.ints (B := B) h
theorem Told.lt {B : Nat} {w : World} {v : Value} {k : Nat} {g : Nat → Int} (h : Told B w v k g) : ∀ b, v.ownBlock = some b → B ≤ b ∧ b < w.heap.size := World.ownsRow.lt h

/-- What the law's own Digits answers. -/
def OutR (n : Nat) (f : Nat → Int) (K1 K2 : Nat) (w : World) (e : Ending) (w' : World) : Prop :=
  Below w.heap.size w w' ∧ ((K1 < n ∧ ∃ X, e = .returned (.tuple #[.slice X 0 0, .int .i64 5])) ∨ (K1 = n ∧ K2 < n ∧ ∃ X, e = .returned (.tuple #[.slice X 0 0, .int .i64 7])) ∨
    (K1 = n ∧ K2 = n ∧ ∃ ao c, e = .returned (.tuple #[.slice ao (Pr f n).toNat c, .int .i64 0]) ∧ Row w' ao (Pr f n).toNat (dig n f)))

set_option maxRecDepth 100000 in
theorem refdig_any (ao : Option Addr) (n c : Nat) (f : Nat → Int) (w : World) (hn : n ≤ 17592186044416) (hf : ∀ i, i < n → -9223372036854775808 ≤ f i ∧ f i ≤ 9223372036854775807) (K1 K2 : Nat) (hF : Facts n f K1 K2) (h : Row w ao n f) :
    Calls Tryd.prog 9 #[.slice ao n c] w (OutR n f K1 K2 w) := by
  have H := Lib.hid h
  have HF := Lib.hid hF
  have HV := Lib.hid hf
  have hk1 := hF.k1
  have hk2 := hF.k2
  clear h hF hf
  go_enter Tryd.func9, Tryd.ntmps9
  go_wp2_with fail
  go_loop [17] (fun i => ∃ k : Nat, k ≤ K1 ∧ i = .int .i64 k) (fun i => K1 - (intOf i).toNat)
  case atStart => exact ⟨0, by omega, rfl⟩
  case round =>
    obtain ⟨k, hk, rfl⟩ := hrel
    by_cases hlt : k < n
    · rcases H.out with h0 | ⟨b, off, rfl, hI⟩
      · omega
      have c1 := hI k hlt
      clear hI
      have q1 : (0 : Int) ≤ (k : Int) := by omega
      have q2 : (k : Int) < (n : Int) := by omega
      have hv := HV.out k hlt
      by_cases hlt1 : k < K1
      · have q3 := HF.out.one k hlt1
        have q4 : ¬ f k < 1 := by omega
        go_wp2_with fail
        go_round
        case rel => exact ⟨k + 1, by omega, by go_num⟩
        case measure => simp [intOf]; omega
      · obtain rfl : k = K1 := by omega
        have q3 : f k < 1 := by have := HF.out.not1 hlt; omega
        go_wp2_with fail
        go_ret2
        exact ⟨(Below.refl _ _).alloc (Nat.le_refl _) _, .inl ⟨hlt, _, rfl⟩⟩
    · obtain rfl : k = n := by omega
      obtain rfl : k = K1 := by omega
      go_wp2_with fail
      go_loop [6, 27] (fun m i => ∃ j : Nat, j ≤ K2 ∧ i = .int .i64 j ∧ m = .int .i64 (Pr f j)) (fun _ i => K2 - (intOf i).toNat)
      case atStart => exact ⟨0, by omega, rfl, rfl⟩
      case round =>
        obtain ⟨j, hj, rfl, rfl⟩ := hrel
        obtain ⟨p1, p2⟩ := HF.out.pr rfl j hj
        by_cases hlt : j < k
        · rcases H.out with h0 | ⟨b, off, rfl, hI⟩
          · omega
          have c1 := hI j hlt
          clear hI
          have q1 : (0 : Int) ≤ (j : Int) := by omega
          have q2 : (j : Int) < (k : Int) := by omega
          have q3 := HF.out.one j hlt
          have q5 : ((16384 : Int).tdiv (Pr f j)) = 16384 / Pr f j := Int.tdiv_eq_ediv_of_nonneg (by omega)
          have q6 : 16384 / Pr f j ≤ 16384 := Int.ediv_le_self _ (by omega)
          have q7 : 0 ≤ 16384 / Pr f j := Int.ediv_nonneg (by omega) (by omega)
          have e1 : Pr f (j + 1) = Pr f j * f j := rfl
          have HE1 := Lib.hid e1
          clear e1
          by_cases hlt2 : j < K2
          · obtain ⟨r1, r2⟩ := HF.out.pr rfl (j + 1) (by omega)
            rw [HE1.out] at r1 r2
            have q4 := HF.out.fit j hlt2
            have q8 : Pr f j ≠ 0 := by omega
            revert q4 q5 q6 q7 r1 r2 q3 p1 p2 q8 c1
            generalize 16384 / Pr f j = q
            intro q4 q5 q6 q7 r1 r2 q3 p1 p2 q8 c1
            go_wp2_with fail
            go_round
            case rel => exact ⟨j + 1, by omega, by go_num, by rw [HE1.out]⟩
            case measure => simp [intOf]; omega
          · obtain rfl : j = K2 := by omega
            have q4 := HF.out.not2 hlt
            have q8 : Pr f j ≠ 0 := by omega
            revert q4 q5 q6 q7 q3 p1 p2 q8 c1
            generalize 16384 / Pr f j = q
            intro q4 q5 q6 q7 q3 p1 p2 q8 c1
            have q9 : q < f j := by omega
            go_wp2_with fail
            go_ret2
            exact ⟨(Below.refl _ _).alloc (Nat.le_refl _) _, .inr (.inl ⟨rfl, hlt, _, rfl⟩)⟩
        · obtain rfl : j = k := by omega
          obtain rfl : j = K2 := by omega
          obtain ⟨M, hM⟩ : ∃ M : Nat, Pr f j = M := ⟨(Pr f j).toNat, by omega⟩
          have HM := Lib.hid hM
          have hM1 : 1 ≤ M := by omega
          have hM2 : M ≤ 16384 := by omega
          clear p1 p2 hM
          rw [HM.out]
          obtain ⟨i0, hi, hz0, hz1, hz2⟩ := info_parts info3i
          have HZ0 := Lib.hid hz0
          have HZ1 := Lib.hid hz1
          have HZ2 := Lib.hid hz2
          clear hz0 hz1 hz2
          go_wp2_with fail
          go_loopw [9, 10] (fun o i wr => ∃ k : Nat, k ≤ M ∧ i = .int .i64 k ∧ Told w.heap.size wr o k (dig j f) ∧ Below w.heap.size w wr) (fun _ i _ => M - (intOf i).toNat)
          case atStart =>
            refine ⟨0, by omega, rfl, ?_, (Below.refl _ _).alloc (Nat.le_refl _) _⟩
            exact World.ownsRow_made w #[] 0 (Nat.le_refl _) (by unfold maxLen; omega) rfl
          case round =>
            obtain ⟨k, hk, rfl, hT, hB⟩ := hrel
            have HT := Lib.hid hT
            have HB := Lib.hid hB
            clear hT hB
            by_cases hlt : k < M
            · go_wp2_with fail
              go_loop [11, 12, 49] (fun r t i => ∃ l : Nat, l ≤ j ∧ i = .int .i64 l ∧ r = .int .i64 (turn f k l).1 ∧ t = .int .i64 (turn f k l).2) (fun _ _ i => j - (intOf i).toNat)
              case atStart => exact ⟨0, by omega, rfl, rfl, rfl⟩
              case round =>
                obtain ⟨l, hl, rfl, rfl, rfl⟩ := hrel
                by_cases hjt : l < j
                · rcases H.out with h0 | ⟨b, off, rfl, hI⟩
                  · omega
                  have c1 : wr.cell? ⟨b, off + l, none⟩ = some (.int .i64 (f l)) := (HB.out.cell (cell_lt (hI l hjt))).trans (hI l hjt)
                  clear hI
                  have q1 : (0 : Int) ≤ (l : Int) := by omega
                  have q2 : (l : Int) < (j : Int) := by omega
                  have q3 := HF.out.one l hjt
                  have q4 : f l ≠ 0 := by omega
                  have q5 : ¬ f l = -1 := by omega
                  have e1 : (turn f k (l + 1)).1 = wrap64 ((turn f k l).1.tdiv (f l)) := rfl
                  have e2 : (turn f k (l + 1)).2 = wrap64 (wrap64 ((turn f k l).2 * f l) + (turn f k l).1.tmod (f l)) := rfl
                  have HE1 := Lib.hid e1
                  have HE2 := Lib.hid e2
                  clear e1 e2
                  revert HE1 HE2 c1 q3 q4 q5
                  generalize (turn f k l).1 = R
                  generalize (turn f k l).2 = T
                  generalize f l = F
                  intro c1 q3 q4 q5 HE1 HE2
                  go_wp2_with fail
                  go_round
                  case rel => exact ⟨l + 1, by omega, by go_num, by rw [HE1.out], by rw [HE2.out]⟩
                  case measure => simp [intOf]; omega
                · obtain rfl : l = j := by omega
                  have e1 : dig l f k = (turn f k l).2 := rfl
                  have HE1 := Lib.hid e1
                  clear e1
                  revert HE1
                  generalize (turn f k l).2 = T
                  intro HE1
                  go_wp2_with (at_builtin; refine wpList_append_own _ rfl (.tmp 64) (.tmp 66) 22 rfl w.heap.size 3 i0 (.int .i64 0) 1 8 Tryd.underlying22 hi HZ0.out HZ1.out HZ2.out rfl (by decide) _ k _ rfl (World.ownsRow.alloc HT.out _) ⟨wr.heap.size, 0, none⟩ 1 1 [.int .i64 T] rfl rfl (cell_one_new _ _ _) (ints_oneCell .i64 [T]) (by unfold maxLen; omega) (by omega) (by have := HB.out.size; simp; omega) ?_)
                  intro v3 w3 hown3 hgrow3 hnil3
                  have HO3 := Lib.hid hown3
                  have HG3 := Lib.hid hgrow3
                  clear hown3 hgrow3 hnil3
                  go_wp2_with fail
                  go_roundw
                  case rel =>
                    refine ⟨k + 1, by omega, by go_num, ?_, ?_⟩
                    · unfold Told; rw [ints_succ k _ _ HE1.out]; exact HO3.out
                    · exact (HB.out.alloc HB.out.size _).grown HG3.out (by have := HB.out.size; simp; omega) (fun b hb => (HT.out.lt b hb).1)
                  case measure => simp [intOf]; omega
            · obtain rfl : k = M := by omega
              obtain ⟨ao', c', rfl, hR⟩ := HT.out.row
              have HR := Lib.hid hR
              clear hR
              go_wp2_with fail
              go_ret2
              refine ⟨HB.out, .inr (.inr ⟨rfl, rfl, ao', c', ?_, ?_⟩)⟩
              · rw [HM.out]; rfl
              · rw [HM.out]; exact HR.out
end Go.Proofs.YtjebnceajpkhmaaDoor
