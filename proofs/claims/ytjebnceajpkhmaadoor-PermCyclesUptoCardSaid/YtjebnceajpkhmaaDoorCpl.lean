/- The plain law of the cycles: each place once, from the least on, by rising least places, each followed by what f tells. -/
import Derived.Test.YtjebnceajpkhmaaDoorCol3
namespace Go.Proofs.YtjebnceajpkhmaaDoor
open Go.RowKit

/-- The lists told after i places stay as they are. -/
theorem out_mono (f : Nat → Int) (i : Nat) : ∀ j, i ≤ j → (out f i).m ≤ (out f j).m ∧ ∀ c, c < (out f i).m → (out f j).ln c = (out f i).ln c ∧ (out f j).hd c = (out f i).hd c
  | 0, h => by
    obtain rfl : i = 0 := by omega
    exact ⟨Nat.le_refl _, fun c hc => ⟨rfl, rfl⟩⟩
  | j + 1, h => by
    rcases Nat.lt_or_ge i (j + 1) with h1 | h1
    · obtain ⟨a, b⟩ := out_mono f i j (by omega)
      cases h0 : (out f j).s j
      · have e : out f (j + 1) = ⟨mks f (out f j).s j (len1 f (out f j).s j), (out f j).m + 1, fun c => if c = (out f j).m then len1 f (out f j).s j else (out f j).ln c, fun c => if c = (out f j).m then j else (out f j).hd c⟩ := by
          rw [out, if_neg (by simp [h0])]
        rw [e]
        refine ⟨by dsimp only; omega, fun c hc => ?_⟩
        have hne : ¬ c = (out f j).m := by omega
        dsimp only
        rw [if_neg hne, if_neg hne]
        exact b c hc
      · rw [out_seen h0]; exact ⟨a, b⟩
    · obtain rfl : i = j + 1 := by omega
      exact ⟨Nat.le_refl _, fun c hc => ⟨rfl, rfl⟩⟩

theorem mks_succ (f : Nat → Int) (s : Int → Bool) (i : Int) (k : Nat) (y : Int) : mks f s i (k + 1) y = if y = it f i k then true else mks f s i k y := rfl
/-- Marks stay. -/
theorem mks_mono {f : Nat → Int} {s : Int → Bool} {i y : Int} (h : s y = true) : ∀ k, mks f s i k y = true
  | 0 => h
  | k + 1 => by
    rw [mks_succ]
    split
    · rfl
    · exact mks_mono h k
theorem mks_iff {f : Nat → Int} {s : Int → Bool} {i y : Int} : ∀ k, mks f s i k y = true ↔ s y = true ∨ ∃ j, j < k ∧ it f i j = y
  | 0 => by simp [mks]
  | k + 1 => by
    rw [mks_succ]
    have ih := mks_iff (f := f) (s := s) (i := i) (y := y) k
    constructor
    · intro h
      split at h
      · next e => exact .inr ⟨k, by omega, e.symm⟩
      · rcases ih.1 h with h | ⟨j, hj, e⟩
        · exact .inl h
        · exact .inr ⟨j, by omega, e⟩
    · rintro (h | ⟨j, hj, e⟩)
      · split
        · rfl
        · exact ih.2 (.inl h)
      · split
        · rfl
        · next hne =>
          rcases Nat.lt_succ_iff_lt_or_eq.1 hj with h1 | rfl
          · exact ih.2 (.inr ⟨j, h1, e⟩)
          · exact absurd e.symm hne

/-- What a set of marks that is made of whole cycles has. -/
structure Shut (n : Nat) (f : Nat → Int) (s : Int → Bool) : Prop where
  back : ∀ y : Nat, y < n → s (f y) = true → s y = true
theorem inj_of {n : Nat} {f : Nat → Int} (hF : Fits n f n) {a b : Nat} (ha : a < n) (hb : b < n) (h : f a = f b) : a = b := by
  rcases Nat.lt_trichotomy a b with h1 | h1 | h1
  · have := (hF.fit b hb).2.2
    have h2 := (mem_iff f b (f b)).2 ⟨a, h1, h⟩
    rw [this] at h2; cases h2
  · exact h1
  · have := (hF.fit a ha).2.2
    have h2 := (mem_iff f a (f a)).2 ⟨b, h1, h.symm⟩
    rw [this] at h2; cases h2

/-- Where the walk stops it has come back to where it began. -/
theorem stops_back {n : Nat} {f : Nat → Int} (hF : Fits n f n) {s : Int → Bool} (hS : Shut n f s) {i : Int} (hi : 0 ≤ i ∧ i < n) {k : Nat} (h : Stops f s i k) (h0 : s i = false) : it f i k = i := by
  have hk := stops_pos h h0
  obtain ⟨k', rfl⟩ : ∃ k', k = k' + 1 := ⟨k - 1, by omega⟩
  have hr := it_range hF.all hi
  have hf := h.1 k' (by omega)
  rcases (mks_iff (k' + 1)).1 h.2 with h1 | ⟨j, hj, e⟩
  · have h2 : s (it f i k') = true := by
      have := hS.back (it f i k').toNat (by have := hr k'; omega) h1
      rwa [Int.toNat_of_nonneg (hr k').1] at this
    rw [(mks_iff k').2 (.inl h2)] at hf; cases hf
  · cases j with
    | zero => exact e.symm
    | succ j =>
      have e' : f (it f i j).toNat = f (it f i k').toNat := e
      have h3 := inj_of hF (by have := hr j; omega) (by have := hr k'; omega) e'
      have h4 : it f i j = it f i k' := by have := hr j; have := hr k'; omega
      rw [(mks_iff k').2 (.inr ⟨j, by omega, h4⟩)] at hf; cases hf
theorem shut_step {n : Nat} {f : Nat → Int} (hF : Fits n f n) {s : Int → Bool} (hS : Shut n f s) {i : Int} (hi : 0 ≤ i ∧ i < n) {k : Nat} (h : Stops f s i k) (h0 : s i = false) : Shut n f (mks f s i k) := by
  have hk := stops_pos h h0
  have hb := stops_back hF hS hi h h0
  have hr := it_range hF.all hi
  refine ⟨fun y hy hm => ?_⟩
  rcases (mks_iff k).1 hm with h1 | ⟨j, hj, e⟩
  · exact (mks_iff k).2 (.inl (hS.back y hy h1))
  · refine (mks_iff k).2 (.inr ?_)
    cases j with
    | zero =>
      obtain ⟨k', rfl⟩ : ∃ k', k = k' + 1 := ⟨k - 1, by omega⟩
      have e' : f (it f i k').toNat = f y := hb.trans e
      have h3 := inj_of hF (by have := hr k'; omega) hy e'
      exact ⟨k', by omega, by have := hr k'; omega⟩
    | succ j =>
      have e' : f (it f i j).toNat = f y := e
      have h3 := inj_of hF (by have := hr j; omega) hy e'
      exact ⟨j, by omega, by have := hr j; omega⟩

/-- What the loop over the places has after i of them. -/
structure Inv (n : Nat) (f : Nat → Int) (i : Nat) : Prop where
  shut : Shut n f (out f i).s
  low : ∀ y : Nat, y < i → (out f i).s y = true
  hd : ∀ c, c < (out f i).m → ∃ a : Nat, a < i ∧ (out f i).hd c = a ∧ (out f a).m = c ∧ (out f a).s a = false ∧ Stops f (out f a).s a ((out f i).ln c) ∧ (out f (a + 1)).s = mks f (out f a).s a ((out f i).ln c) ∧ (out f (a + 1)).m = c + 1
theorem inv {n : Nat} {f : Nat → Int} (hF : Fits n f n) : ∀ i, i ≤ n → Inv n f i
  | 0, _ => ⟨⟨fun y _ h => by simp [out] at h⟩, fun y h => by omega, fun c h => by simp [out] at h⟩
  | i + 1, hi => by
    obtain ⟨h1, h2, h3⟩ := inv hF i (by omega)
    cases h0 : (out f i).s i
    · obtain ⟨k, hk, hkn⟩ := stops_ex hF.all (i := (i : Int)) (by omega) (out f i).s
      have e := out_new h0 hk
      refine ⟨?_, fun y hy => ?_, fun c hc => ?_⟩
      · rw [e]; exact shut_step hF h1 (by omega) hk h0
      · rw [e]
        rcases Nat.lt_succ_iff_lt_or_eq.1 hy with h4 | rfl
        · exact mks_mono (h2 y h4) k
        · exact (mks_iff k).2 (.inr ⟨0, stops_pos hk h0, rfl⟩)
      · by_cases ec : c = (out f i).m
        · subst ec
          refine ⟨i, by omega, ?_, rfl, h0, ?_, ?_, ?_⟩
          · rw [e]; simp
          · rw [e]; simpa using hk
          · rw [e]; simp
          · rw [e]
        · have hc' : c < (out f i).m := by rw [e] at hc; dsimp only at hc; omega
          obtain ⟨a, b1, b2, b3, b4, b5, b6, b7⟩ := h3 c hc'
          obtain ⟨-, hm⟩ := out_mono f i (i + 1) (by omega)
          obtain ⟨m1, m2⟩ := hm c hc'
          exact ⟨a, by omega, by rw [m2]; exact b2, b3, b4, by rw [m1]; exact b5, by rw [m1]; exact b6, b7⟩
    · have e := out_seen h0
      refine ⟨by rw [e]; exact h1, fun y hy => ?_, fun c hc => ?_⟩
      · rw [e]
        rcases Nat.lt_succ_iff_lt_or_eq.1 hy with h4 | rfl
        · exact h2 y h4
        · exact h0
      · rw [e] at hc ⊢
        obtain ⟨a, b1, b⟩ := h3 c hc
        exact ⟨a, by omega, b⟩

/-- Where no list has come nothing has. -/
theorem out_eq (f : Nat → Int) (i : Nat) : ∀ j, i ≤ j → (out f i).m = (out f j).m → out f i = out f j
  | 0, h, _ => by
    obtain rfl : i = 0 := by omega
    rfl
  | j + 1, h, hm => by
    rcases Nat.lt_or_ge i (j + 1) with h1 | h1
    · have h2 := (out_mono f i j (by omega)).1
      cases h0 : (out f j).s j
      · have h3 : (out f (j + 1)).m = (out f j).m + 1 := by rw [out, if_neg (by simp [h0])]
        omega
      · rw [out_seen h0] at hm ⊢
        exact out_eq f i j (by omega) hm
    · obtain rfl : i = j + 1 := by omega
      rfl

/-- List c, as the law looks at it: it begins at place a; the marks ahead of it are S. -/
structure Lst (n : Nat) (f : Nat → Int) (c a : Nat) : Prop where
  lt : a < n
  hd : (out f n).hd c = a
  m : (out f a).m = c
  new : (out f a).s a = false
  stop : Stops f (out f a).s a ((out f n).ln c)
  s' : (out f (a + 1)).s = mks f (out f a).s a ((out f n).ln c)
  m' : (out f (a + 1)).m = c + 1
  pos : 1 ≤ (out f n).ln c
  back : it f a ((out f n).ln c) = a
  low : ∀ j, j < (out f n).ln c → (a : Int) ≤ it f a j ∧ it f a j < n
  free : ∀ j, j < (out f n).ln c → mks f (out f a).s a j (it f a j) = false
theorem lst {n : Nat} {f : Nat → Int} (hF : Fits n f n) {c : Nat} (hc : c < (out f n).m) : ∃ a, Lst n f c a := by
  obtain ⟨a, b1, b2, b3, b4, b5, b6, b7⟩ := (inv hF n (Nat.le_refl _)).hd c hc
  have ha := inv hF a (by omega)
  have hr := it_range hF.all (i := (a : Int)) (by omega)
  refine ⟨a, b1, b2, b3, b4, b5, b6, b7, stops_pos b5 b4, stops_back hF ha.shut (by omega) b5 b4, fun j hj => ⟨?_, (hr j).2⟩, b5.1⟩
  rcases Int.lt_or_le (it f a j) a with h | h
  · have h1 := ha.low (it f a j).toNat (by have := hr j; omega)
    rw [Int.toNat_of_nonneg (hr j).1] at h1
    have h2 := b5.1 j hj
    rw [mks_mono h1 j] at h2; cases h2
  · exact h
theorem Lst.rise {n : Nat} {f : Nat → Int} {c a b : Nat} (h : Lst n f c a) (h' : Lst n f (c + 1) b) : a < b := by
  rcases Nat.lt_or_ge a b with h1 | h1
  · exact h1
  · have := (out_mono f b a h1).1
    have := h.m
    have := h'.m
    omega
/-- Each place of a list is followed by what f tells. -/
theorem Lst.next {n : Nat} {f : Nat → Int} {c a : Nat} (h : Lst n f c a) {j : Nat} (hj : j < (out f n).ln c) : f (it f a j).toNat = it f a ((j + 1) % (out f n).ln c) := by
  by_cases e : j + 1 = (out f n).ln c
  · rw [e, Nat.mod_self]
    show it f a (j + 1) = it f a 0
    rw [e, h.back]
    rfl
  · rw [Nat.mod_eq_of_lt (by omega)]
    rfl
/-- In the end all are marked. -/
theorem all_marked {n : Nat} {f : Nat → Int} (hF : Fits n f n) : cnt (out f n).s n = 0 := by
  have h := (inv hF n (Nat.le_refl _)).low
  have : ∀ k, k ≤ n → cnt (out f n).s k = 0 := by
    intro k
    induction k with
    | zero => intro _; rfl
    | succ k ih =>
      intro hk
      unfold cnt
      rw [ih (by omega), h k (by omega)]
      rfl
  exact this n (Nat.le_refl _)
end Go.Proofs.YtjebnceajpkhmaaDoor
