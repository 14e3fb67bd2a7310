/- What perm.Cycles answers: an iterator with the cycles in its box. -/
import Derived.Test.YtjebnceajpkhmaaDoorSgn
namespace Go.Proofs.YtjebnceajpkhmaaDoor
open Go.RowKit

theorem LL.setlow {lo hi : Nat} {w : World} {v : Value} {m : Nat} {ln : Nat → Nat} {g : Nat → Nat → Int} (h : LL lo hi w v m ln g) {p : Addr} (hp : p.block < lo) (u : Value) : LL lo hi (w.setCell p u) v m ln g := by
  obtain ⟨xs, h1, h2, h3, h4⟩ := h
  exact ⟨xs, ownsRow_setCell_below h1 hp u, h2, (fun c hc => by obtain ⟨vc, a, b, d⟩ := h3 c hc; exact ⟨vc, a, ownsRow_setCell_below b hp u, d⟩), h4⟩

/-- The cycles' lists are not empty. -/
theorem stops_pos {f : Nat → Int} {s : Int → Bool} {i : Int} {k : Nat} (h : Stops f s i k) (h0 : s i = false) : 1 ≤ k := by
  rcases Nat.eq_zero_or_pos k with rfl | h1
  · have := h.2; simp [mks, it] at this; rw [h0] at this; cases this
  · exact h1

/-- What perm.Cycles answers. -/
def OutY (n : Nat) (f : Nat → Int) (K : Nat) (w : World) (e : Ending) (w' : World) : Prop :=
  e = .returned (.func (.func 30) #[] #[.pointer (some ⟨w.heap.size, 0, none⟩)]) ∧ Below w.heap.size w w' ∧ w.heap.size < w'.heap.size ∧
    ∃ v, w'.cell? ⟨w.heap.size, 0, none⟩ = some v ∧ ((K < n ∧ v = .slice none 0 0) ∨ (K = n ∧ LL (w.heap.size + 1) w'.heap.size w' v (out f n).m (out f n).ln (fun c => it f ((out f n).hd c))))

set_option maxRecDepth 100000 in
theorem iter_any (A : Nat → Addr) (ao : Option Addr) (n c : Nat) (f : Nat → Int) (w : World) (hn : n ≤ 1048576) (hf : ∀ i, i < n → -9223372036854775808 ≤ f i ∧ f i ≤ 9223372036854775807) (K : Nat) (hF : Fits n f K) (h : Row w ao n f) (hE : Glo A w) :
    Calls Tryd.prog 16 #[.slice ao n c] w (OutY n f K w) := by
  have hb0 : Below w.heap.size w (w.alloc (.cells #[.slice none 0 0] 35)) := (Below.refl _ _).alloc (Nat.le_refl _) _
  have hC := check_any A ao n c f (w.alloc (.cells #[.slice none 0 0] 35)) (by omega) hf K hF (h.below hb0) (hE.below hb0)
  have HC := Lib.hid hC
  have H := Lib.hid h
  have HF := Lib.hid hF
  have HB0 := Lib.hid hb0
  have hk := hF.le
  clear hC h hF hf hb0
  have hcell : (w.alloc (.cells #[.slice none 0 0] 35)).cell? ⟨w.heap.size, 0, none⟩ = some (.slice none 0 0) ∧ (w.alloc (.cells #[.slice none 0 0] 35)).frozen? ⟨w.heap.size, 0, none⟩ = false := by
    refine ⟨?_, ?_⟩
    · rw [World.cell?_alloc_at _ _ _ _ rfl]; rfl
    · rw [World.frozen?_alloc_at _ _ _ _ rfl]
  have HCell := Lib.hid hcell
  clear hcell
  by_cases hlt : K < n
  · go_enter Tryd.func16, Tryd.ntmps16
    go_wp2_with fail
    refine HC.out.mono ?_
    rintro e w1 ⟨rfl, hb⟩
    have HB := Lib.hid hb
    clear hb
    rw [OutC, if_pos hlt]
    unfold er
    go_wp2_with fail
    go_ret
    exact ⟨rfl, HB0.out.trans (HB.out.mono (by simp)), by have := HB.out.size; simp at this; omega, _, (HB.out.cell (by simp)).trans HCell.out.1, .inl ⟨hlt, rfl⟩⟩
  obtain rfl : K = n := by omega
  go_enter Tryd.func16, Tryd.ntmps16
  go_wp2_with fail
  refine HC.out.mono ?_
  rintro e w1 ⟨rfl, hb⟩
  have HB := Lib.hid hb
  clear hb
  rw [OutC, if_neg hlt]
  go_wp2_with fail
  refine (cycles_any ao K c f w1 hn HF.out (H.out.below (HB0.out.trans (HB.out.mono (by simp))))).mono ?_
  rintro e w2 ⟨v, rfl, hL, hb⟩
  have hs1 := HB.out.size
  simp at hs1
  have hb2 : Below (w.heap.size + 1) (w.alloc (.cells #[.slice none 0 0] 35)) w2 := (HB.out.mono (by simp)).trans (hb.mono hs1)
  have hs2 := hb2.size
  have hc2 : w2.cell? ⟨w.heap.size, 0, none⟩ = some (.slice none 0 0) := (hb2.cell (by simp)).trans HCell.out.1
  have hf2 : w2.frozen? ⟨w.heap.size, 0, none⟩ = false := (hb2.frozen (by simp)).trans HCell.out.2
  have HB2 := Lib.hid hb2
  have HL := Lib.hid hL
  have HC2 := Lib.hid hc2
  have HS1 := Lib.hid hs1
  have HS2 := Lib.hid hs2
  obtain ⟨a, c2, rfl, -, -⟩ := hL.rows
  clear hb hb2 hL hs1 hs2
  go_wp2_with fail
  go_ret
  refine ⟨rfl, ?_, ?_, _, World.cell?_setCell_same _ _ _ HC2.out, .inr ⟨rfl, ?_⟩⟩
  · exact (HB0.out.trans (HB2.out.mono (by omega))).setCell (p := ⟨w.heap.size, 0, none⟩) (Nat.le_refl _) _
  · have := HS2.out; simp at *; omega
  · have := HS1.out
    refine LL.up (HL.out.setlow (p := ⟨w.heap.size, 0, none⟩) (by show w.heap.size < w1.heap.size; omega) _) this ?_
    simp
end Go.Proofs.YtjebnceajpkhmaaDoor
