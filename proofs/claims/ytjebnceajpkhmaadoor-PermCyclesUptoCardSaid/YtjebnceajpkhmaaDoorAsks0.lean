/- The walk of PermAsks: it returns true. -/
import Derived.Test.YtjebnceajpkhmaaDoorCol3
import Derived.Test.YtjebnceajpkhmaaDoorDigits
namespace Go.Proofs.YtjebnceajpkhmaaDoor
open Go.RowKit

theorem OutI.bad {n K : Nat} {f : Nat → Int} {E N : Value} {w w' : World} {e : Ending} (h : OutI n f K E N w e w') (hK : K < n) : Below w.heap.size w w' ∧ ∃ X, e = .returned (.tuple #[.slice X 0 0, E]) := by
  obtain ⟨hb, ⟨-, h⟩ | ⟨h1, -⟩⟩ := h
  · exact ⟨hb, h⟩
  · omega
theorem OutI.good {n K : Nat} {f : Nat → Int} {E N : Value} {w w' : World} {e : Ending} (h : OutI n f K E N w e w') (hK : K = n) : Below w.heap.size w w' ∧ ∃ X, e = .returned (.tuple #[.slice (some ⟨X, 0, none⟩) n n, N]) ∧ Ints w' X 0 n (ix f n) := by
  obtain ⟨hb, ⟨h1, -⟩ | ⟨-, h⟩⟩ := h
  · omega
  · exact ⟨hb, h⟩
theorem OutA.bad {n m K L : Nat} {f q : Nat → Int} {E E' N : Value} {w w' : World} {e : Ending} (h : OutA n m f q K L E E' N w e w') (hK : K < n ∨ L < m) : Below w.heap.size w w' ∧ ∃ X, e = .returned (.tuple #[.slice X 0 0, E]) := by
  obtain ⟨hb, ⟨-, h⟩ | ⟨h1, h2, -⟩ | ⟨h1, h2, -⟩⟩ := h
  · exact ⟨hb, h⟩
  · omega
  · omega
theorem OutA.len {n m K L : Nat} {f q : Nat → Int} {E E' N : Value} {w w' : World} {e : Ending} (h : OutA n m f q K L E E' N w e w') (hK : K = n) (hL : L = m) (hne : n ≠ m) : Below w.heap.size w w' ∧ ∃ X, e = .returned (.tuple #[.slice X 0 0, E']) := by
  obtain ⟨hb, ⟨h1, -⟩ | ⟨-, -, -, h⟩ | ⟨-, -, h1, -⟩⟩ := h
  · omega
  · exact ⟨hb, h⟩
  · omega
theorem OutA.good {n m K L : Nat} {f q : Nat → Int} {E E' N : Value} {w w' : World} {e : Ending} (h : OutA n m f q K L E E' N w e w') (hK : K = n) (hL : L = m) (hne : n = m) : Below w.heap.size w w' ∧ ∃ ao c, e = .returned (.tuple #[.slice ao n c, N]) ∧ Row w' ao n (aft f q) := by
  obtain ⟨hb, ⟨h1, -⟩ | ⟨-, -, h1, -⟩ | ⟨-, -, -, h⟩⟩ := h
  · omega
  · omega
  · exact ⟨hb, h⟩
theorem OutL.bad {n K : Nat} {f : Nat → Int} {w w' : World} {e : Ending} (h : OutL n f K w e w') (hK : K < n) : Below w.heap.size w w' ∧ ∃ X c, e = .returned (.tuple #[.slice X 0 c, .bool true]) := by
  obtain ⟨v, he, hb, ⟨-, X, c, rfl⟩ | ⟨h1, -⟩⟩ := h
  · exact ⟨hb, X, c, he⟩
  · omega
theorem OutL.good {n K : Nat} {f : Nat → Int} {w w' : World} {e : Ending} (h : OutL n f K w e w') (hK : K = n) : Below w.heap.size w w' ∧ ∃ a c, e = .returned (.tuple #[.slice a (out f n).m c, .bool true]) ∧ Rows2 w' a (out f n).m (out f n).ln (fun c => it f ((out f n).hd c)) ∧ (out f n).m ≤ 9223372036854775807 := by
  obtain ⟨v, he, hb, ⟨h1, -⟩ | ⟨-, h⟩⟩ := h
  · omega
  · obtain ⟨a, c, rfl, hr, hm⟩ := h.rows
    exact ⟨hb, a, c, he, hr, hm⟩

end Go.Proofs.YtjebnceajpkhmaaDoor
