/- The cycles of a permutation as plain functions; lists of lists in memory. -/
import Derived.Test.YtjebnceajpkhmaaDoorAft
import Derived.OneCell
namespace Go.Proofs.YtjebnceajpkhmaaDoor
open Go.RowKit

/-- The place after k steps from i on. -/
def it (f : Nat → Int) (i : Int) : Nat → Int
  | 0 => i
  | k + 1 => f (it f i k).toNat
/-- The marks after k steps. -/
def mks (f : Nat → Int) (s : Int → Bool) (i : Int) : Nat → Int → Bool
  | 0 => s
  | k + 1 => fun y => if y = it f i k then true else mks f s i k y
/-- From i on the walk stops after k steps. -/
def Stops (f : Nat → Int) (s : Int → Bool) (i : Int) (k : Nat) : Prop := (∀ j, j < k → mks f s i j (it f i j) = false) ∧ mks f s i k (it f i k) = true
theorem Stops.eq {f : Nat → Int} {s : Int → Bool} {i : Int} {k l : Nat} (h : Stops f s i k) (h' : Stops f s i l) : k = l := by
  rcases Nat.lt_trichotomy k l with a | a | a
  · have := h'.1 k a; rw [h.2] at this; cases this
  · exact a
  · have := h.1 l a; rw [h'.2] at this; cases this
noncomputable def len1 (f : Nat → Int) (s : Int → Bool) (i : Int) : Nat := by
  classical
  exact if h : ∃ k, Stops f s i k then h.choose else 0
theorem len1_eq {f : Nat → Int} {s : Int → Bool} {i : Int} {k : Nat} (h : Stops f s i k) : len1 f s i = k := by
  unfold len1
  rw [dif_pos ⟨k, h⟩]
  exact Stops.eq (Exists.choose_spec (⟨k, h⟩ : ∃ k, Stops f s i k)) h

/-- What the cycles' loop has after some places: the marks, how many lists, their lengths, their first places. -/
structure St where
  s : Int → Bool
  m : Nat
  ln : Nat → Nat
  hd : Nat → Int
noncomputable def out (f : Nat → Int) : Nat → St
  | 0 => ⟨fun _ => false, 0, fun _ => 0, fun _ => 0⟩
  | i + 1 => if (out f i).s i then out f i else
      ⟨mks f (out f i).s i (len1 f (out f i).s i), (out f i).m + 1, fun c => if c = (out f i).m then len1 f (out f i).s i else (out f i).ln c, fun c => if c = (out f i).m then i else (out f i).hd c⟩
theorem out_m (f : Nat → Int) : ∀ i, (out f i).m ≤ i
  | 0 => by simp [out]
  | i + 1 => by
    have := out_m f i
    unfold out
    split
    · omega
    · simp; omega
theorem out_seen {f : Nat → Int} {i : Nat} (h : (out f i).s i = true) : out f (i + 1) = out f i := by rw [out, if_pos h]
theorem out_new {f : Nat → Int} {i k : Nat} (h : (out f i).s i = false) (hs : Stops f (out f i).s i k) :
    out f (i + 1) = ⟨mks f (out f i).s i k, (out f i).m + 1, fun c => if c = (out f i).m then k else (out f i).ln c, fun c => if c = (out f i).m then i else (out f i).hd c⟩ := by
  rw [out, if_neg (by simp [h]), len1_eq hs]

theorem it_range {n : Nat} {f : Nat → Int} (hF : ∀ k, k < n → 0 ≤ f k ∧ f k < n) {i : Int} (hi : 0 ≤ i ∧ i < n) : ∀ k, 0 ≤ it f i k ∧ it f i k < n
  | 0 => hi
  | k + 1 => by
    obtain ⟨a, b⟩ := it_range hF hi k
    exact hF _ (by omega)

/-- How many of the first n places are not marked. -/
def cnt (s : Int → Bool) : Nat → Nat
  | 0 => 0
  | n + 1 => cnt s n + if s n then 0 else 1
theorem cnt_le (s : Int → Bool) : ∀ n, cnt s n ≤ n
  | 0 => Nat.le_refl _
  | n + 1 => by have := cnt_le s n; unfold cnt; split <;> omega
theorem cnt_same {s t : Int → Bool} : ∀ n, (∀ y : Nat, y < n → t y = s y) → cnt t n = cnt s n
  | 0, _ => rfl
  | n + 1, h => by
    unfold cnt
    rw [cnt_same n fun y hy => h y (by omega), h n (by omega)]
theorem cnt_mark {s t : Int → Bool} {x : Nat} (ht : ∀ y : Nat, t y = if y = x then true else s y) (hx : s x = false) : ∀ n, x < n → cnt t n + 1 = cnt s n
  | 0, h => by omega
  | n + 1, h => by
    unfold cnt
    by_cases e : x = n
    · subst e
      have h1 : cnt t x = cnt s x := cnt_same x fun y hy => by rw [ht, if_neg (by omega)]
      rw [h1, ht x, if_pos rfl, hx]
      simp
    · have h1 := cnt_mark ht hx n (by omega)
      have e' : ¬ n = x := fun h => e h.symm
      simp only [ht n, e', if_false]
      omega

/-- Two rows of different kinds lie in different blocks. -/
theorem kinds_ne {w : World} {B B' : Nat} {e e' : TypeId} {v v' : Value} {k k' : Nat} {xs xs' : List Value} (h : w.ownsRow B e 1 v k xs) (h' : w.ownsRow B' e' 1 v' k' xs') (he : e ≠ e') : v.ownBlock = none ∨ v.ownBlock ≠ v'.ownBlock := by
  rcases h.2 with ⟨rfl, -⟩ | ⟨g, c, cur, rfl, -, hg, -⟩
  · exact .inl rfl
  · refine .inr fun hb => ?_
    rcases h'.2 with ⟨rfl, -⟩ | ⟨g', c', cur', rfl, -, hg', -⟩
    · cases hb
    · simp only [Value.ownBlock, Option.some.injEq] at hb
      subst hb
      rw [hg] at hg'
      simp at hg'
      exact he hg'.2

theorem own_mono {w : World} {B B' : Nat} {e : TypeId} {v : Value} {k : Nat} {xs : List Value} (h : w.ownsRow B e 1 v k xs) (hb : B' ≤ B) : w.ownsRow B' e 1 v k xs := by
  obtain ⟨h1, h2 | ⟨g, cap, cur, a, b, c⟩⟩ := h
  · exact ⟨h1, .inl h2⟩
  · exact ⟨h1, .inr ⟨g, cap, cur, a, by omega, c⟩⟩
/-- No two of these lie in one block. -/
def Apart (xs : List Value) : Prop := ∀ (c d : Nat) (vc vd : Value) (b : Nat), c ≠ d → xs[c]? = some vc → xs[d]? = some vd → vc.ownBlock = some b → vd.ownBlock ≠ some b
theorem apart_nil : Apart [] := fun c d vc vd b _ h => by simp at h
theorem apart_push {xs : List Value} {x : Value} {B : Nat} (h : Apart xs) (hl : ∀ (c : Nat) (vc : Value), xs[c]? = some vc → ∀ b, vc.ownBlock = some b → b < B) (hx : ∀ b, x.ownBlock = some b → B ≤ b) : Apart (xs ++ [x]) := by
  have key : ∀ (c : Nat) (vc : Value), (xs ++ [x])[c]? = some vc → (xs[c]? = some vc ∧ c < xs.length) ∨ (vc = x ∧ c = xs.length) := fun c vc hc => by
    rcases Nat.lt_or_ge c xs.length with h1 | h1
    · rw [List.getElem?_append_left h1] at hc; exact .inl ⟨hc, h1⟩
    · rw [List.getElem?_append_right h1] at hc
      have : c - xs.length = 0 := by
        have := (List.getElem?_eq_some_iff.1 hc).1
        simp at this; omega
      rw [this] at hc
      simp at hc
      exact .inr ⟨hc.symm, by omega⟩
  intro c d vc vd b hne hc hd hb he
  rcases key c vc hc with ⟨h1, h2⟩ | ⟨rfl, h2⟩
  · rcases key d vd hd with ⟨h3, h4⟩ | ⟨rfl, h4⟩
    · exact h c d vc vd b hne h1 h3 hb he
    · have := hl c vc h1 b hb
      have := hx b he
      omega
  · rcases key d vd hd with ⟨h3, h4⟩ | ⟨rfl, h4⟩
    · have := hl d vd h3 b he
      have := hx b hb
      omega
    · omega
/-- A list of m lists: list c has ln c numbers, g c; all of it lies in blocks from lo to hi. -/
def LL (lo hi : Nat) (w : World) (v : Value) (m : Nat) (ln : Nat → Nat) (g : Nat → Nat → Int) : Prop :=
  ∃ xs, w.ownsRow lo 22 1 v m xs ∧ (∀ b, v.ownBlock = some b → b < hi) ∧ (∀ c, c < m → ∃ vc, xs[c]? = some vc ∧ Told lo w vc (ln c) (g c) ∧ ∀ b, vc.ownBlock = some b → b < hi) ∧ Apart xs

theorem LL.nil (lo hi : Nat) (w : World) (ln : Nat → Nat) (g : Nat → Nat → Int) : LL lo hi w (.slice none 0 0) 0 ln g := ⟨[], World.ownsRow_nil w lo 22 1, fun b h => (by cases h), fun c h => (by omega), apart_nil⟩
theorem LL.made {lo hi : Nat} {w : World} (ln : Nat → Nat) (g : Nat → Nat → Int) (h : lo ≤ w.heap.size) (hh : w.heap.size < hi) : LL lo hi (w.alloc (.cells #[] 22)) (.slice (some ⟨w.heap.size, 0, none⟩) 0 0) 0 ln g :=
  ⟨[], World.ownsRow_made w #[] 0 h (by unfold maxLen; omega) rfl, fun b hb => (by cases hb; exact hh), fun c h => (by omega), apart_nil⟩
theorem LL.alloc {lo hi : Nat} {w : World} {v : Value} {m : Nat} {ln : Nat → Nat} {g : Nat → Nat → Int} (h : LL lo hi w v m ln g) (o : Obj) : LL lo hi (w.alloc o) v m ln g := by
  obtain ⟨xs, h1, h2, h3, h4⟩ := h
  exact ⟨xs, h1.alloc o, h2, (fun c hc => by obtain ⟨vc, a, b, d⟩ := h3 c hc; exact ⟨vc, a, World.ownsRow.alloc b o, d⟩), h4⟩
theorem own_set {w : World} {B : Nat} {e : TypeId} {v : Value} {k : Nat} {xs : List Value} (h : w.ownsRow B e 1 v k xs) {p : Addr} (hk : ∃ c, w.heap[p.block]? = some (.cells c 4 (0, 0))) (he : e ≠ 4) (u : Value) : (w.setCell p u).ownsRow B e 1 v k xs := by
  refine ownsRow_setCell_other h (fun hb => ?_) u
  obtain ⟨c, hc⟩ := hk
  rcases h.2 with ⟨rfl, -⟩ | ⟨g, cap, cur, rfl, -, hg, -⟩
  · cases hb
  · simp only [Value.ownBlock, Option.some.injEq] at hb
    subst hb
    rw [hc] at hg
    simp at hg
    exact he hg.2.symm
theorem own_below {w w' : World} {B : Nat} {e : TypeId} {v : Value} {k : Nat} {xs : List Value} (h : w.ownsRow B e 1 v k xs) (hb : Below w.heap.size w w') : w'.ownsRow B e 1 v k xs := by
  obtain ⟨h1, h2 | ⟨g, cap, cur, rfl, a, b, c⟩⟩ := h
  · exact ⟨h1, .inl h2⟩
  · have hg : g < w.heap.size := by
      rcases Nat.lt_or_ge g w.heap.size with h | h
      · exact h
      · rw [Array.getElem?_eq_none h] at b; cases b
    exact ⟨h1, .inr ⟨g, cap, cur, rfl, a, (hb.block g hg).trans b, c⟩⟩
theorem LL.set {lo hi : Nat} {w : World} {v : Value} {m : Nat} {ln : Nat → Nat} {g : Nat → Nat → Int} (h : LL lo hi w v m ln g) {p : Addr} (hp : ∃ c, w.heap[p.block]? = some (.cells c 4 (0, 0))) (u : Value) : LL lo hi (w.setCell p u) v m ln g := by
  obtain ⟨xs, h1, h2, h3, h4⟩ := h
  exact ⟨xs, own_set h1 hp (by decide) u, h2, (fun c hc => by obtain ⟨vc, a, b, d⟩ := h3 c hc; exact ⟨vc, a, own_set b hp (by decide) u, d⟩), h4⟩
theorem LL.below {lo hi : Nat} {w w' : World} {v : Value} {m : Nat} {ln : Nat → Nat} {g : Nat → Nat → Int} (h : LL lo hi w v m ln g) (hb : Below w.heap.size w w') : LL lo hi w' v m ln g := by
  obtain ⟨xs, h1, h2, h3, h4⟩ := h
  exact ⟨xs, own_below h1 hb, h2, (fun c hc => by obtain ⟨vc, a, b, d⟩ := h3 c hc; exact ⟨vc, a, own_below b hb, d⟩), h4⟩
theorem LL.grown {lo hi : Nat} {w w' : World} {v : Value} {m : Nat} {ln : Nat → Nat} {g : Nat → Nat → Int} {row : Option Nat} (h : LL lo hi w v m ln g) (hg : w.grownBy w' row) (hr : ∀ b, row = some b → hi ≤ b) : LL lo hi w' v m ln g := by
  have ne : ∀ {u : Value}, (∀ b, u.ownBlock = some b → b < hi) → u.ownBlock = none ∨ u.ownBlock ≠ row := by
    intro u hu
    cases hb : u.ownBlock with
    | none => exact .inl rfl
    | some b => exact .inr fun e => by have := hu b hb; have := hr b e.symm; omega
  obtain ⟨xs, h1, h2, h3, h4⟩ := h
  exact ⟨xs, h1.kept hg (ne h2), h2, (fun c hc => by obtain ⟨vc, a, b, d⟩ := h3 c hc; exact ⟨vc, a, World.ownsRow.kept b hg (ne d), d⟩), h4⟩
theorem LL.up {lo lo' hi hi' : Nat} {w : World} {v : Value} {m : Nat} {ln : Nat → Nat} {g : Nat → Nat → Int} (h : LL lo hi w v m ln g) (hl : lo' ≤ lo) (hh : hi ≤ hi') : LL lo' hi' w v m ln g := by
  obtain ⟨xs, h1, h2, h3, h4⟩ := h
  exact ⟨xs, own_mono h1 hl, fun b hb => Nat.lt_of_lt_of_le (h2 b hb) hh, (fun c hc => by obtain ⟨vc, a, b, d⟩ := h3 c hc; exact ⟨vc, a, own_mono b hl, fun b hb => Nat.lt_of_lt_of_le (d b hb) hh⟩), h4⟩
theorem LL.eqs {lo hi : Nat} {w : World} {v : Value} {m : Nat} {ln ln' : Nat → Nat} {g g' : Nat → Nat → Int} (h : LL lo hi w v m ln g) (hl : ∀ c, c < m → ln' c = ln c) (hg : ∀ c, c < m → g' c = g c) : LL lo hi w v m ln' g' := by
  obtain ⟨xs, h1, h2, h3, h4⟩ := h
  exact ⟨xs, h1, h2, (fun c hc => by rw [hl c hc, hg c hc]; exact h3 c hc), h4⟩

/-- One list more: what an append of it leaves. -/
theorem LL.push {lo hi : Nat} {w w' : World} {v v' vc : Value} {m k : Nat} {ln : Nat → Nat} {g : Nat → Nat → Int} {xs : List Value} {x : Nat → Int}
    (h1 : w.ownsRow lo 22 1 v m xs) (h3 : ∀ c, c < m → ∃ vc, xs[c]? = some vc ∧ Told lo w vc (ln c) (g c)) (ho : Told lo w vc k x) {B : Nat} (h4 : Apart xs) (hlt : ∀ (c : Nat) (vc : Value), xs[c]? = some vc → ∀ b, vc.ownBlock = some b → b < B) (hx : ∀ b, vc.ownBlock = some b → B ≤ b)
    (hown : w'.ownsRow lo 22 1 v' (m + 1) (xs ++ [vc])) (hg : w.grownBy w' v.ownBlock) (hs : w'.heap.size ≤ hi) :
    LL lo hi w' v' (m + 1) (fun c => if c = m then k else ln c) (fun c => if c = m then x else g c) := by
  have hl : xs.length = m := by have := h1.1; omega
  have keep : ∀ {u : Value} {j : Nat} {y : Nat → Int}, Told lo w u j y → Told lo w' u j y := fun hu => World.ownsRow.kept hu hg (kinds_ne hu h1 (by decide))
  refine ⟨xs ++ [vc], hown, fun b hb => Nat.lt_of_lt_of_le (hown.lt b hb).2 hs, fun c hc => ?_, apart_push h4 hlt hx⟩
  by_cases e : c = m
  · subst e
    refine ⟨vc, by rw [List.getElem?_append_right (by omega)]; simp [hl], ?_, ?_⟩
    · simpa using keep ho
    · exact fun b hb => Nat.lt_of_lt_of_le ((keep ho).lt b hb).2 hs
  · obtain ⟨u, hu, ht⟩ := h3 c (by omega)
    refine ⟨u, by rw [List.getElem?_append_left (by omega)]; exact hu, ?_, ?_⟩
    · simpa [e] using keep ht
    · exact fun b hb => Nat.lt_of_lt_of_le ((keep ht).lt b hb).2 hs

def lnV : Value → Nat | .slice _ n _ => n | _ => 0
end Go.Proofs.YtjebnceajpkhmaaDoor
