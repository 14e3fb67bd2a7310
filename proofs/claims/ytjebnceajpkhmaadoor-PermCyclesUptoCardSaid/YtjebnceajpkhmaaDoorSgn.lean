/- What sameLists, Sign and the law's own Sign answer. -/
import Derived.Test.YtjebnceajpkhmaaDoorCyc2
namespace Go.Proofs.YtjebnceajpkhmaaDoor
open Go.RowKit

/-- SameInts of two equal lists: it only draws. -/
def Quiet (w : World) (v : Value) (e : Ending) (w' : World) : Prop := e = .returned v ∧ ∃ m, w' = w.drewN m
theorem same_zero_q (a a' : Option Addr) (c c' : Nat) (w : World) : Calls Tryd.prog 10 #[.slice a 0 c, .slice a' 0 c'] w (Quiet w (.bool true)) := by
  go_enter Tryd.func10, Tryd.ntmps10
  go_wp2_with fail
  refine wp_loop_rounds 1 ?_
  rw [rounds_succ]
  go_wp2_with fail
  go_ret
  exact ⟨rfl, 0, rfl⟩
theorem same_some_q (b off b' off' n c c' : Nat) (f : Nat → Int) (w : World) (hn : n ≤ 9223372036854775807) (h : Ints w b off n f) (h' : Ints w b' off' n f) :
    Calls Tryd.prog 10 #[.slice (some ⟨b, off, none⟩) n c, .slice (some ⟨b', off', none⟩) n c'] w (Quiet w (.bool true)) := by
  have H := Lib.hid h
  have H' := Lib.hid h'
  clear h h'
  go_enter Tryd.func10, Tryd.ntmps10
  go_wp2_with fail
  go_loopw [13] (fun i wr => ∃ k m : Nat, k ≤ n ∧ i = .int .i64 k ∧ wr = w.drewN m) (fun i _ => n - (intOf i).toNat)
  case atStart => exact ⟨0, 0, by omega, rfl, rfl⟩
  case round =>
    obtain ⟨k, m, hk, rfl, rfl⟩ := hrel
    by_cases hlt : k < n
    · have c1 := H.out k hlt
      have c2 := H'.out k hlt
      have q1 : (0 : Int) ≤ (k : Int) := by omega
      have q2 : (k : Int) < (n : Int) := by omega
      have hd : decide ((k : Int) < (n : Int)) = true := by simp; omega
      go_wp2_with fail
      go_quiet (fail)
      go_wp2_with fail
      go_roundw
      case rel => exact ⟨k + 1, m + nq, by omega, by go_num, rfl⟩
      case measure => simp [intOf]; omega
    · go_wp2_with fail
      go_ret
      exact ⟨rfl, m, rfl⟩
theorem same_q {a a' : Option Addr} {n c c' : Nat} {f : Nat → Int} (w : World) (hn : n ≤ 9223372036854775807) (h : Row w a n f) (h' : Row w a' n f) :
    Calls Tryd.prog 10 #[.slice a n c, .slice a' n c'] w (Quiet w (.bool true)) := by
  rcases h with rfl | ⟨b, off, rfl, h⟩
  · exact same_zero_q a a' c c' w
  · rcases h' with rfl | ⟨b', off', rfl, h'⟩
    · exact same_zero_q _ _ c c' w
    · exact same_some_q b off b' off' n c c' f w hn h h'

/-- A list of lists as a walk reads it. -/
def Rows2 (w : World) (a : Option Addr) (m : Nat) (ln : Nat → Nat) (g : Nat → Nat → Int) : Prop :=
  m = 0 ∨ ∃ b, a = some ⟨b, 0, none⟩ ∧ ∀ c, c < m → ∃ ac k, w.cell? ⟨b, c, none⟩ = some (.slice ac (ln c) k) ∧ Row w ac (ln c) (g c) ∧ ln c ≤ 9223372036854775807
theorem Rows2.below {w w' : World} {a : Option Addr} {m : Nat} {ln : Nat → Nat} {g : Nat → Nat → Int} (h : Rows2 w a m ln g) (hb : Below w.heap.size w w') : Rows2 w' a m ln g := by
  rcases h with h | ⟨b, ha, h⟩
  · exact .inl h
  · exact .inr ⟨b, ha, fun c hc => by obtain ⟨ac, k, h1, h2, h3⟩ := h c hc; exact ⟨ac, k, (hb.cell (cell_lt h1)).trans h1, h2.below hb, h3⟩⟩
theorem Told.row' {B : Nat} {w : World} {v : Value} {k : Nat} {g : Nat → Int} (h : Told B w v k g) : ∃ ao c, v = .slice ao k c ∧ Row w ao k g ∧ k ≤ 9223372036854775807 := by
  obtain ⟨ao, c, rfl, hr⟩ := h.row
  refine ⟨ao, c, rfl, hr, ?_⟩
  rcases h.2 with ⟨-, h0⟩ | ⟨g', cap, cur, e, -, -, h1, h2, -⟩
  · omega
  · unfold maxLen at h2; omega
theorem LL.rows {lo hi : Nat} {w : World} {v : Value} {m : Nat} {ln : Nat → Nat} {g : Nat → Nat → Int} (h : LL lo hi w v m ln g) : ∃ a c, v = .slice a m c ∧ Rows2 w a m ln g ∧ m ≤ 9223372036854775807 := by
  obtain ⟨xs, h1, -, h3, -⟩ := h
  rcases h1.2 with ⟨rfl, rfl⟩ | ⟨b, cap, cur, rfl, -, -, h4, h5, -⟩
  · exact ⟨none, 0, rfl, .inl rfl, by omega⟩
  · refine ⟨_, _, rfl, .inr ⟨b, rfl, fun c hc => ?_⟩, by unfold maxLen at h5; omega⟩
    obtain ⟨vc, h6, h7, -⟩ := h3 c hc
    obtain ⟨ac, k, rfl, hr, hk⟩ := h7.row'
    exact ⟨ac, k, by rw [World.ownsRow.cellAt h1 c (by omega), h6], hr, hk⟩

theorem same_lists0 (a a' : Option Addr) (c c' : Nat) (w : World) : Calls Tryd.prog 15 #[.slice a 0 c, .slice a' 0 c'] w fun e w' => e = .returned (.bool true) ∧ Below w.heap.size w w' := by
  go_enter Tryd.func15, Tryd.ntmps15
  go_wp2_with fail
  refine wp_loop_rounds 1 ?_
  rw [rounds_succ]
  go_wp2_with fail
  go_ret
  exact ⟨rfl, Below.refl _ _⟩
set_option maxRecDepth 100000 in
theorem same_lists (a a' : Option Addr) (m c c' : Nat) (ln : Nat → Nat) (g : Nat → Nat → Int) (w : World) (hm : m ≤ 9223372036854775807) (h : Rows2 w a m ln g) (h' : Rows2 w a' m ln g) :
    Calls Tryd.prog 15 #[.slice a m c, .slice a' m c'] w fun e w' => e = .returned (.bool true) ∧ Below w.heap.size w w' := by
  rcases h with rfl | ⟨b, rfl, h⟩
  · exact same_lists0 _ _ _ _ _
  rcases h' with rfl | ⟨b', rfl, h'⟩
  · exact same_lists0 _ _ _ _ _
  have H := Lib.hid h
  have H' := Lib.hid h'
  clear h h'
  go_enter Tryd.func15, Tryd.ntmps15
  go_wp2_with fail
  go_loopw [13] (fun i wr => ∃ k : Nat, k ≤ m ∧ i = .int .i64 k ∧ ∃ d, wr = w.drewN d) (fun i _ => m - (intOf i).toNat)
  case atStart => exact ⟨0, by omega, rfl, 0, rfl⟩
  case round =>
    obtain ⟨k, hk, rfl, hd⟩ := hrel
    have HD := Lib.hid hd
    clear hd
    by_cases hlt : k < m
    · obtain ⟨ac, kc, c1, r1, hln⟩ := H.out k hlt
      obtain ⟨ac', kc', c2, r2, -⟩ := H'.out k hlt
      have d1 : wr.cell? ⟨b, k, none⟩ = some (.slice ac (ln k) kc) := by obtain ⟨d, rfl⟩ := HD.out; simpa using c1
      have d2 : wr.cell? ⟨b', k, none⟩ = some (.slice ac' (ln k) kc') := by obtain ⟨d, rfl⟩ := HD.out; simpa using c2
      have hbw : Below w.heap.size w wr := by obtain ⟨d, rfl⟩ := HD.out; exact below_drewN (Below.refl _ _) _
      have HS : ∀ d, Calls Tryd.prog 10 #[.slice ac (ln k) kc, .slice ac' (ln k) kc'] (wr.drewN d) fun e w'' => e = .returned (.bool true) ∧ ∃ m, w'' = wr.drewN m := fun d =>
        Calls.quiet_of (same_q _ hln ((r1.below hbw).below (below_drewN (Below.refl _ _) _)) ((r2.below hbw).below (below_drewN (Below.refl _ _) _)))
      have HSH := Lib.hid HS
      clear c1 c2 r1 r2 HS hbw
      have q1 : (0 : Int) ≤ (k : Int) := by omega
      have q2 : (k : Int) < (m : Int) := by omega
      have hd : decide ((k : Int) < (m : Int)) = true := by simp; omega
      go_wp2_with fail
      go_quiet ((go_at_call 10; exact HSH.out _))
      go_wp2_with fail
      go_roundw
      case rel => exact ⟨k + 1, by omega, by go_num, by obtain ⟨d, rfl⟩ := HD.out; exact ⟨d + nq, by simp⟩⟩
      case measure => simp [intOf]; omega
    · go_wp2_with fail
      go_ret
      obtain ⟨d, rfl⟩ := HD.out
      exact ⟨rfl, below_drewN (Below.refl _ _) _⟩

/-- The sign of a permutation of n places with m cycles. -/
def sgn (n m : Nat) : Int := if (n - m) % 2 = 0 then 1 else -1

set_option maxRecDepth 100000 in
theorem sign_any (A : Nat → Addr) (ao : Option Addr) (n c : Nat) (f : Nat → Int) (w : World) (hn : n ≤ 1048576) (hf : ∀ i, i < n → -9223372036854775808 ≤ f i ∧ f i ≤ 9223372036854775807) (K : Nat) (hF : Fits n f K) (h : Row w ao n f) (hE : Glo A w) :
    Calls Tryd.prog 23 #[.slice ao n c] w fun e w' => e = .returned (if K < n then .tuple #[.int .i64 0, er A 11] else .tuple #[.int .i64 (sgn n (out f n).m), .nilIface]) ∧ Below w.heap.size w w' := by
  have hC := check_any A ao n c f w (by omega) hf K hF h hE
  have HC := Lib.hid hC
  have H := Lib.hid h
  have HF := Lib.hid hF
  have hk := hF.le
  clear hC h hF hf
  by_cases hlt : K < n
  · rw [if_pos hlt]
    go_enter Tryd.func23, Tryd.ntmps23
    go_wp2_with fail
    refine HC.out.mono ?_
    rintro e w1 ⟨rfl, hb⟩
    have HB := Lib.hid hb
    clear hb
    rw [OutC, if_pos hlt]
    unfold er
    go_wp2_with fail
    go_ret2
    exact ⟨rfl, HB.out⟩
  rw [if_neg hlt]
  obtain rfl : K = n := by omega
  go_enter Tryd.func23, Tryd.ntmps23
  go_wp2_with fail
  refine HC.out.mono ?_
  rintro e w1 ⟨rfl, hb⟩
  have HB := Lib.hid hb
  clear hb
  rw [OutC, if_neg hlt]
  go_wp2_with fail
  refine (cycles_any ao K c f w1 hn HF.out (H.out.below HB.out)).mono ?_
  rintro e w2 ⟨v, rfl, hL, hb⟩
  have hb2 : Below w.heap.size w w2 := HB.out.trans (hb.mono HB.out.size)
  have HB2 := Lib.hid hb2
  obtain ⟨a, c2, rfl, -, -⟩ := hL.rows
  have hm := out_m f K
  obtain ⟨M, hM⟩ : ∃ M, (out f K).m = M := ⟨_, rfl⟩
  rw [hM] at hm ⊢
  have HM := Lib.hid hM
  clear hb hb2 hL hM
  by_cases hp : (K - M) % 2 = 0
  · have e1 : (((K : Int) - (M : Int)).tmod 2) = 0 := by
      rw [Int.tmod_eq_emod_of_nonneg (by omega)]; omega
    go_wp2_with fail
    go_ret2
    exact ⟨by rw [HM.out, sgn, if_pos hp]; rfl, HB2.out⟩
  · have e1 : (((K : Int) - (M : Int)).tmod 2) = 1 := by
      rw [Int.tmod_eq_emod_of_nonneg (by omega)]; omega
    go_wp2_with fail
    go_ret2
    exact ⟨by rw [HM.out, sgn, if_neg hp]; rfl, HB2.out⟩

set_option maxRecDepth 100000 in
theorem refsign_any (ao : Option Addr) (n c : Nat) (f : Nat → Int) (w : World) (hn : n ≤ 1048576) (hf : ∀ i, i < n → -9223372036854775808 ≤ f i ∧ f i ≤ 9223372036854775807) (K : Nat) (hF : Fits n f K) (h : Row w ao n f) :
    Calls Tryd.prog 24 #[.slice ao n c] w fun e w' => e = .returned (if K < n then .tuple #[.int .i64 0, .int .i64 12] else .tuple #[.int .i64 (sgn n (out f n).m), .int .i64 0]) ∧ Below w.heap.size w w' := by
  have hC := refcheck_any ao n c f w (by omega) hf K hF h
  have hR := fun w1 (hb : Below w.heap.size w w1) => refcycles_any ao n c f w1 hn hf K hF (h.below hb)
  have HC := Lib.hid hC
  have HR := Lib.hid hR
  have hk := hF.le
  clear hC h hF hf hR
  by_cases hlt : K < n
  · rw [if_pos hlt]
    go_enter Tryd.func24, Tryd.ntmps24
    go_wp2_with fail
    refine HC.out.mono ?_
    rintro e w1 ⟨rfl, hb⟩
    have HB := Lib.hid hb
    clear hb
    rw [OutK, if_pos hlt]
    go_wp2_with fail
    go_ret2
    exact ⟨rfl, HB.out⟩
  rw [if_neg hlt]
  obtain rfl : K = n := by omega
  go_enter Tryd.func24, Tryd.ntmps24
  go_wp2_with fail
  refine HC.out.mono ?_
  rintro e w1 ⟨rfl, hb⟩
  have HB := Lib.hid hb
  clear hb
  rw [OutK, if_neg hlt]
  go_wp2_with fail
  refine (HR.out w1 HB.out).mono ?_
  rintro e w2 ⟨v, rfl, -, hL, hb⟩
  have hb2 : Below w.heap.size w w2 := HB.out.trans (hb.mono HB.out.size)
  have HB2 := Lib.hid hb2
  obtain ⟨a, c2, rfl, -, -⟩ := (hL trivial).rows
  have hm := out_m f K
  obtain ⟨M, hM⟩ : ∃ M, (out f K).m = M := ⟨_, rfl⟩
  rw [hM] at hm ⊢
  have HM := Lib.hid hM
  clear hb hb2 hL hM
  by_cases hp : (K - M) % 2 = 0
  · have e1 : (((K : Int) - (M : Int)).tmod 2) = 0 := by
      rw [Int.tmod_eq_emod_of_nonneg (by omega)]; omega
    go_wp2_with fail
    go_ret2
    exact ⟨by rw [HM.out, sgn, if_pos hp]; rfl, HB2.out⟩
  · have e1 : (((K : Int) - (M : Int)).tmod 2) = 1 := by
      rw [Int.tmod_eq_emod_of_nonneg (by omega)]; omega
    go_wp2_with fail
    go_ret2
    exact ⟨by rw [HM.out, sgn, if_neg hp]; rfl, HB2.out⟩
end Go.Proofs.YtjebnceajpkhmaaDoor
