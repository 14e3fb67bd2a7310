/- What the law's helpers on lists of ints do: SameInts of two equal lists is true; Mark; SpareInts; KeptInts of what SpareInts made is true. -/
import Derived.Test.YtjebnceajpkhmaaDoorProg
import Derived.WalkKit
import Derived.WalkLawsBesides
import Derived.WalkSpells
import Derived.Lib.Hide
import Derived.Outline
import Derived.Deep.RegionHeld3
import Derived.Deep.QuietTactic
import Derived.BigQuiet
import Derived.WalkSmall
namespace Go.Proofs.YtjebnceajpkhmaaDoor
open Go.RowKit

theorem bcell {W w1 : World} (hb : Below W.heap.size W w1) : (∀ b o, b < W.heap.size → w1.cell? ⟨b, o, none⟩ = W.cell? ⟨b, o, none⟩) ∧ (∀ b o, b < W.heap.size → w1.frozen? ⟨b, o, none⟩ = W.frozen? ⟨b, o, none⟩) :=
  ⟨fun b o h => hb.cell (p := ⟨b, o, none⟩) h, fun b o h => hb.frozen (p := ⟨b, o, none⟩) h⟩
theorem cell_lt {w : World} {p : Addr} {v : Value} (h : w.cell? p = some v) : p.block < w.heap.size := by
  rcases Nat.lt_or_ge p.block w.heap.size with h1 | h1
  · exact h1
  · simp [World.cell?, Array.getElem?_eq_none h1] at h

/-- The n numbers f lie in a row from b, off on. -/
def Ints (w : World) (b off n : Nat) (f : Nat → Int) : Prop := ∀ i, i < n → w.cell? ⟨b, off + i, none⟩ = some (.int .i64 (f i))
theorem Ints.below {w w' : World} {b off n : Nat} {f : Nat → Int} (h : Ints w b off n f) (hb : Below w.heap.size w w') : Ints w' b off n f :=
  fun i hi => (hb.cell (cell_lt (h i hi))).trans (h i hi)
/-- A slice of n numbers f: it is empty (wherever it points), or they lie there. -/
def Row (w : World) (a : Option Addr) (n : Nat) (f : Nat → Int) : Prop := n = 0 ∨ ∃ b off, a = some ⟨b, off, none⟩ ∧ Ints w b off n f
theorem Row.below {w w' : World} {a : Option Addr} {n : Nat} {f : Nat → Int} (h : Row w a n f) (hb : Below w.heap.size w w') : Row w' a n f := by
  rcases h with h | ⟨b, off, ha, h⟩
  · exact .inl h
  · exact .inr ⟨b, off, ha, h.below hb⟩

theorem same_zero (a a' : Option Addr) (c c' : Nat) (w : World) : Calls Tryd.prog 10 #[.slice a 0 c, .slice a' 0 c'] w fun e w' => e = .returned (.bool true) ∧ Below w.heap.size w w' := by
  go_enter Tryd.func10, Tryd.ntmps10
  go_wp2_with fail
  refine wp_loop_rounds 1 ?_
  rw [rounds_succ]
  go_wp2_with fail
  go_ret
  exact ⟨rfl, Below.refl _ _⟩

theorem same_some (b off b' off' n c c' : Nat) (f : Nat → Int) (w : World) (hn : n ≤ 9223372036854775807) (h : Ints w b off n f) (h' : Ints w b' off' n f) :
    Calls Tryd.prog 10 #[.slice (some ⟨b, off, none⟩) n c, .slice (some ⟨b', off', none⟩) n c'] w fun e w' => e = .returned (.bool true) ∧ Below w.heap.size w w' := by
  have H := Lib.hid h
  have H' := Lib.hid h'
  clear h h'
  go_enter Tryd.func10, Tryd.ntmps10
  go_wp2_with fail
  go_loopw [13] (fun i wr => ∃ k m : Nat, k ≤ n ∧ i = .int .i64 k ∧ wr = w.drewN m) (fun i _ => n - (intOf i).toNat)
  case atStart => exact ⟨0, 0, by omega, rfl, rfl⟩
  case round =>
    obtain ⟨k, m, hk, rfl, rfl⟩ := hrel
    by_cases hlt : k < n
    · have c1 := H.out k hlt
      have c2 := H'.out k hlt
      have q1 : (0 : Int) ≤ (k : Int) := by omega
      have q2 : (k : Int) < (n : Int) := by omega
      have hd : decide ((k : Int) < (n : Int)) = true := by simp; omega
      go_wp2_with fail
      go_quiet (fail)
      go_wp2_with fail
      go_roundw
      case rel => exact ⟨k + 1, m + nq, by omega, by go_num, rfl⟩
      case measure => simp [intOf]; omega
    · go_wp2_with fail
      go_ret
      exact ⟨rfl, below_drewN (Below.refl _ _) _⟩

theorem same_rows {a a' : Option Addr} {n c c' : Nat} {f : Nat → Int} (w : World) (hn : n ≤ 9223372036854775807) (h : Row w a n f) (h' : Row w a' n f) :
    Calls Tryd.prog 10 #[.slice a n c, .slice a' n c'] w fun e w' => e = .returned (.bool true) ∧ Below w.heap.size w w' := by
  rcases h with rfl | ⟨b, off, rfl, h⟩
  · exact same_zero a a' c c' w
  · rcases h' with rfl | ⟨b', off', rfl, h'⟩
    · exact same_zero _ _ c c' w
    · exact same_some b off b' off' n c c' f w hn h h'

/-- The mark of place j of list i. -/
def markv (i j : Int) : Int :=
  wrap64 (wrap64 ((IntKind.u64.wrap ((bits .xor .u64 (IntKind.u64.wrap (IntKind.u64.wrap (IntKind.u64.wrap (wrap64 (i + 1)) * 11400714819323198485) + IntKind.u64.wrap (IntKind.u64.wrap (wrap64 (j + 1)) * 13787848793156543929)))
    (IntKind.u64.wrap (IntKind.u64.wrap (IntKind.u64.wrap (wrap64 (i + 1)) * 11400714819323198485) + IntKind.u64.wrap (IntKind.u64.wrap (wrap64 (j + 1)) * 13787848793156543929)) / 536870912)) * 10723151780598845931)) / 8589934592) + 1)

theorem mark_any (i j : Int) (w : World) : Calls Tryd.prog 26 #[.int .i64 i, .int .i64 j] w fun e w' => e = .returned (.int .i64 (markv i j)) ∧ w' = w := by
  go_enter Tryd.func26, Tryd.ntmps26
  go_wp2
  go_ret
  exact ⟨rfl, rfl⟩
end Go.Proofs.YtjebnceajpkhmaaDoor
