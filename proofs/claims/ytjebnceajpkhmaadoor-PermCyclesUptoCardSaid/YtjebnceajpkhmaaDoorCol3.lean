/- The cycles' lists have at least one place and at most all; what the law's cycles answers to any list. -/
import Derived.Test.YtjebnceajpkhmaaDoorCol2
namespace Go.Proofs.YtjebnceajpkhmaaDoor
open Go.RowKit

theorem stops_from {n : Nat} {f : Nat → Int} (hF : ∀ k, k < n → 0 ≤ f k ∧ f k < n) {i : Int} (hi : 0 ≤ i ∧ i < n) (s : Int → Bool) : ∀ d k, (∀ j, j < k → mks f s i j (it f i j) = false) → cnt (mks f s i k) n + k ≤ n → n - k ≤ d → ∃ k', Stops f s i k' ∧ k' ≤ n := by
  intro d
  induction d with
  | zero =>
    intro k h1 h2 h3
    obtain ⟨r1, r2⟩ := it_range hF hi k
    obtain ⟨y, hy⟩ : ∃ y : Nat, it f i k = y := ⟨(it f i k).toNat, by omega⟩
    cases h : mks f s i k (it f i k)
    · have hmk : ∀ z : Nat, mks f s i (k + 1) (z : Int) = if z = y then true else mks f s i k z := fun z => by
        rw [mks, hy]
        by_cases e : z = y
        · subst e; simp
        · have e' : ¬ (z : Int) = (y : Int) := by omega
          simp [e, e']
      rw [hy] at h
      have := cnt_mark hmk h n (by omega)
      omega
    · exact ⟨k, ⟨h1, h⟩, by omega⟩
  | succ d ih =>
    intro k h1 h2 h3
    obtain ⟨r1, r2⟩ := it_range hF hi k
    obtain ⟨y, hy⟩ : ∃ y : Nat, it f i k = y := ⟨(it f i k).toNat, by omega⟩
    cases h : mks f s i k (it f i k)
    · have hmk : ∀ z : Nat, mks f s i (k + 1) (z : Int) = if z = y then true else mks f s i k z := fun z => by
        rw [mks, hy]
        by_cases e : z = y
        · subst e; simp
        · have e' : ¬ (z : Int) = (y : Int) := by omega
          simp [e, e']
      have h' := h
      rw [hy] at h'
      have := cnt_mark hmk h' n (by omega)
      refine ih (k + 1) (fun j hj => ?_) (by omega) (by omega)
      rcases Nat.lt_succ_iff_lt_or_eq.1 hj with h4 | rfl
      · exact h1 j h4
      · exact h
    · exact ⟨k, ⟨h1, h⟩, by omega⟩
theorem stops_ex {n : Nat} {f : Nat → Int} (hF : ∀ k, k < n → 0 ≤ f k ∧ f k < n) {i : Int} (hi : 0 ≤ i ∧ i < n) (s : Int → Bool) : ∃ k, Stops f s i k ∧ k ≤ n :=
  stops_from hF hi s n 0 (fun j hj => by omega) (by have := cnt_le (mks f s i 0) n; omega) (by omega)

theorem ln_ok {n : Nat} {f : Nat → Int} (hF : ∀ k, k < n → 0 ≤ f k ∧ f k < n) : ∀ i, i ≤ n → ∀ c, c < (out f i).m → 1 ≤ (out f i).ln c ∧ (out f i).ln c ≤ n
  | 0, _, c, h => by simp [out] at h
  | i + 1, hi, c, h => by
    cases h0 : (out f i).s i
    · obtain ⟨k, hk, hkn⟩ := stops_ex hF (i := (i : Int)) (by omega) (out f i).s
      rw [out_new h0 hk] at h ⊢
      dsimp only at h ⊢
      split
      · exact ⟨stops_pos hk h0, hkn⟩
      · exact ln_ok hF i (by omega) c (by omega)
    · rw [out_seen h0] at h ⊢
      exact ln_ok hF i (by omega) c h

/-- What the law's cycles answers. -/
def OutL (n : Nat) (f : Nat → Int) (K : Nat) (w : World) (e : Ending) (w' : World) : Prop :=
  ∃ v, e = .returned (.tuple #[v, .bool true]) ∧ Below w.heap.size w w' ∧ ((K < n ∧ ∃ X c, v = .slice X 0 c) ∨ (K = n ∧ LL w.heap.size w'.heap.size w' v (out f n).m (out f n).ln (fun c => it f ((out f n).hd c))))

theorem lawcycles_any (A : Nat → Addr) (ao : Option Addr) (n c : Nat) (f : Nat → Int) (w : World) (hn : n ≤ 1048576) (hf : ∀ i, i < n → -9223372036854775808 ≤ f i ∧ f i ≤ 9223372036854775807) (K : Nat) (hF : Fits n f K) (h : Row w ao n f) (hE : Glo A w) :
    Calls Tryd.prog 13 #[.slice ao n c] w (OutL n f K w) := by
  have hb := W5_below w (.slice ao n c)
  have hI := iter_any A ao n c f (W5 w (.slice ao n c)) hn hf K hF (h.below hb) (hE.below hb)
  have hs := W5_size w (.slice ao n c)
  by_cases hlt : K < n
  · refine (collect_in n c 0 ao w (fun _ => 1) (fun _ _ => 0) (by omega) (by omega) (fun k hk => by omega) (hI.mono fun e w' ⟨h1, h2, h3, v, h4, h5⟩ => ?_)).mono fun e w' ⟨v, h1, h2, h3⟩ => ?_
    · rw [hs] at h1 h2 h3 h4
      rcases h5 with ⟨-, rfl⟩ | ⟨h5, -⟩
      · exact ⟨h1, h2, h3, none, 0, h4, LL.nil _ _ _ _ _⟩
      · omega
    · obtain ⟨a, c', rfl, -, -⟩ := h3.rows
      exact ⟨_, h1, h2, .inl ⟨hlt, _, _, rfl⟩⟩
  · have := hF.le
    obtain rfl : K = n := by omega
    have hln := ln_ok hF.all K (Nat.le_refl _)
    refine (collect_in K c (out f K).m ao w (out f K).ln (fun c => it f ((out f K).hd c)) (out_m f K) (by have := out_m f K; omega) (fun k hk => by have := hln k hk; omega) (hI.mono fun e w' ⟨h1, h2, h3, v, h4, h5⟩ => ?_)).mono fun e w' ⟨v, h1, h2, h3⟩ => ?_
    · rw [hs] at h1 h2 h3 h4 h5
      rcases h5 with ⟨h5, -⟩ | ⟨-, h5⟩
      · omega
      · obtain ⟨a, c', rfl, -, -⟩ := h5.rows
        exact ⟨h1, h2, h3, a, c', h4, h5⟩
    · exact ⟨v, h1, h2, .inr ⟨rfl, h3⟩⟩
end Go.Proofs.YtjebnceajpkhmaaDoor
