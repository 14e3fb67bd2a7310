/- Lists of lists that own their memory: what a store into one of them, and one place more of one of them, leaves. -/
import Derived.Test.YtjebnceajpkhmaaDoorCpl
namespace Go.Proofs.YtjebnceajpkhmaaDoor
open Go.RowKit

/-- The headers of M lists: list c lies in block bk c, has ln c places of cp c. -/
def hdrs (M : Nat) (bk ln cp : Nat → Nat) : List Value := (List.range M).map fun c => .slice (some ⟨bk c, 0, none⟩) (ln c) (cp c)
theorem hdrs_len (M : Nat) (bk ln cp : Nat → Nat) : (hdrs M bk ln cp).length = M := by simp [hdrs]
theorem hdrs_at {M : Nat} (bk ln cp : Nat → Nat) {c : Nat} (hc : c < M) : (hdrs M bk ln cp)[c]? = some (.slice (some ⟨bk c, 0, none⟩) (ln c) (cp c)) := by simp [hdrs, hc]
theorem hdrs_set {M : Nat} {bk ln cp bk' ln' cp' : Nat → Nat} {c : Nat} (h : ∀ d, d ≠ c → bk' d = bk d ∧ ln' d = ln d ∧ cp' d = cp d) :
    (hdrs M bk ln cp).set c (.slice (some ⟨bk' c, 0, none⟩) (ln' c) (cp' c)) = hdrs M bk' ln' cp' := by
  apply List.ext_getElem?
  intro d
  by_cases hd : d < M
  · by_cases e : d = c
    · subst e
      rw [List.getElem?_set_self (by rw [hdrs_len]; exact hd), hdrs_at _ _ _ hd]
    · obtain ⟨a, b, c'⟩ := h d e
      rw [List.getElem?_set_ne (fun h => e h.symm), hdrs_at _ _ _ hd, hdrs_at _ _ _ hd, a, b, c']
  · rw [List.getElem?_eq_none (by rw [List.length_set, hdrs_len]; omega), List.getElem?_eq_none (by rw [hdrs_len]; omega)]
theorem ints_set {k t : Nat} {g g' : Nat → Int} {u : Int} (hu : g' t = u) (h : ∀ s, s ≠ t → g' s = g s) : (ints k g).set t (.int .i64 u) = ints k g' := by
  apply List.ext_getElem?
  intro d
  by_cases hd : d < k
  · by_cases e : d = t
    · subst e
      rw [List.getElem?_set_self (by rw [ints_len]; exact hd), ints_at _ _ _ hd, hu]
    · rw [List.getElem?_set_ne (fun h => e h.symm), ints_at _ _ _ hd, ints_at _ _ _ hd, h d e]
  · rw [List.getElem?_eq_none (by rw [List.length_set, ints_len]; omega), List.getElem?_eq_none (by rw [ints_len]; omega)]

/-- M lists that own their memory, list c holding the numbers g c, behind the header's row v. -/
structure Ow (lo M : Nat) (w : World) (v : Value) (bk ln cp : Nat → Nat) (g : Nat → Nat → Int) : Prop where
  row : w.ownsRow lo 22 1 v M (hdrs M bk ln cp)
  each : ∀ c, c < M → w.ownsRow lo 3 1 (.slice (some ⟨bk c, 0, none⟩) (ln c) (cp c)) (ln c) (ints (ln c) (g c))
  apart : ∀ c d, c < M → d < M → bk c = bk d → c = d
theorem Ow.kind {lo M : Nat} {w : World} {v : Value} {bk ln cp : Nat → Nat} {g : Nat → Nat → Int} (h : Ow lo M w v bk ln cp g) {c : Nat} (hc : c < M) : ∃ cs, w.heap[bk c]? = some (.cells cs 3 (0, 0)) := by
  rcases (h.each c hc).2 with ⟨h1, -⟩ | ⟨g', cap, cur, h1, -, h2, -⟩
  · cases h1
  · cases h1; exact ⟨_, h2⟩
theorem Ow.alloc {lo M : Nat} {w : World} {v : Value} {bk ln cp : Nat → Nat} {g : Nat → Nat → Int} (h : Ow lo M w v bk ln cp g) (o : Obj) : Ow lo M (w.alloc o) v bk ln cp g :=
  ⟨World.ownsRow.alloc h.row o, fun c hc => World.ownsRow.alloc (h.each c hc) o, h.apart⟩
theorem Ow.below {lo M : Nat} {w w' : World} {v : Value} {bk ln cp : Nat → Nat} {g : Nat → Nat → Int} (h : Ow lo M w v bk ln cp g) (hb : Below w.heap.size w w') : Ow lo M w' v bk ln cp g :=
  ⟨own_below h.row hb, fun c hc => own_below (h.each c hc) hb, h.apart⟩
theorem Ow.lt {lo M : Nat} {w : World} {v : Value} {bk ln cp : Nat → Nat} {g : Nat → Nat → Int} (h : Ow lo M w v bk ln cp g) {c : Nat} (hc : c < M) : lo ≤ bk c ∧ bk c < w.heap.size := World.ownsRow.lt (h.each c hc) _ rfl
theorem Ow.eqs {lo M : Nat} {w : World} {v : Value} {bk ln cp : Nat → Nat} {g g' : Nat → Nat → Int} (h : Ow lo M w v bk ln cp g) (he : ∀ c, c < M → ∀ t, t < ln c → g' c t = g c t) : Ow lo M w v bk ln cp g' :=
  ⟨h.row, fun c hc => by rw [ints_congr (he c hc)]; exact h.each c hc, h.apart⟩

/-- One number is written. -/
theorem Ow.store {lo M : Nat} {w : World} {v : Value} {bk ln cp : Nat → Nat} {g g' : Nat → Nat → Int} (h : Ow lo M w v bk ln cp g) {c t : Nat} {u : Int} (hc : c < M) (hu : g' c t = u) (hg : ∀ d s, ¬ (d = c ∧ s = t) → g' d s = g d s) :
    Ow lo M (w.setCell ⟨bk c, t, none⟩ (.int .i64 u)) v bk ln cp g' := by
  refine ⟨own_setk h.row (p := ⟨bk c, t, none⟩) (h.kind hc) (by decide) _, fun d hd => ?_, h.apart⟩
  by_cases e : d = c
  · subst e
    have := (World.ownsRow.stored (h.each d hd) t (.int .i64 u)).1
    rwa [ints_set hu (fun s hs => hg d s (fun hh => hs hh.2))] at this
  · have he : ints (ln d) (g' d) = ints (ln d) (g d) := ints_congr fun s _ => hg d s (fun hh => e hh.1)
    rw [he]
    refine ownsRow_setCell_other (h.each d hd) (fun hb => ?_) _
    simp only [Value.ownBlock, Option.some.injEq] at hb
    exact e (h.apart d c hd hc hb)

/-- List c has one place more: an append to it, and the new header stored. -/
theorem Ow.more {lo M : Nat} {w w' : World} {bl cl : Nat} {bk ln cp bk' ln' cp' : Nat → Nat} {g : Nat → Nat → Int} (h : Ow lo M w (.slice (some ⟨bl, 0, none⟩) M cl) bk ln cp g) {c : Nat} (hc : c < M)
    (hown : w'.ownsRow lo 3 1 (.slice (some ⟨bk' c, 0, none⟩) (ln' c) (cp' c)) (ln' c) (ints (ln' c) (g c))) (hg : w.grownBy w' (some (bk c))) (hn : bk' c = bk c ∨ w.heap.size ≤ bk' c)
    (ho : ∀ d, d ≠ c → bk' d = bk d ∧ ln' d = ln d ∧ cp' d = cp d) :
    Ow lo M (w'.setCell ⟨bl, c, none⟩ (.slice (some ⟨bk' c, 0, none⟩) (ln' c) (cp' c))) (.slice (some ⟨bl, 0, none⟩) M cl) bk' ln' cp' g := by
  have hrow : w'.ownsRow lo 22 1 (.slice (some ⟨bl, 0, none⟩) M cl) M (hdrs M bk ln cp) := World.ownsRow.kept h.row hg (kinds_ne h.row (h.each c hc) (by decide))
  have hk : ∃ cs, w'.heap[bl]? = some (.cells cs 22 (0, 0)) := by
    rcases hrow.2 with ⟨h1, -⟩ | ⟨g', cap, cur, h1, -, h2, -⟩
    · cases h1
    · cases h1; exact ⟨_, h2⟩
  refine ⟨?_, fun d hd => ?_, fun a b ha hb he => ?_⟩
  · have := (World.ownsRow.stored hrow c (.slice (some ⟨bk' c, 0, none⟩) (ln' c) (cp' c))).1
    rwa [hdrs_set ho] at this
  · by_cases e : d = c
    · subst e
      exact own_setk hown (p := ⟨bl, d, none⟩) hk (by decide) _
    · obtain ⟨e1, e2, e3⟩ := ho d e
      rw [e1, e2, e3]
      refine own_setk (World.ownsRow.kept (h.each d hd) hg (.inr fun hb => ?_)) (p := ⟨bl, c, none⟩) hk (by decide) _
      simp only [Value.ownBlock, Option.some.injEq] at hb
      exact e (h.apart d c hd hc hb)
  · by_cases ea : a = c
    · by_cases eb : b = c
      · rw [ea, eb]
      · obtain ⟨e1, -, -⟩ := ho b eb
        rw [ea, e1] at he
        rcases hn with h1 | h1
        · rw [h1] at he; rw [ea]; exact h.apart c b hc hb he
        · have := (h.lt hb).2; omega
    · obtain ⟨e1, -, -⟩ := ho a ea
      by_cases eb : b = c
      · rw [eb, e1] at he
        rcases hn with h1 | h1
        · rw [h1] at he; rw [eb]; exact h.apart a c ha hc he
        · have := (h.lt ha).2; omega
      · obtain ⟨e2, -, -⟩ := ho b eb
        rw [e1, e2] at he
        exact h.apart a b ha hb he
end Go.Proofs.YtjebnceajpkhmaaDoor
