/- The walk of PermAsks: it returns true. -/
import Derived.Test.YtjebnceajpkhmaaDoorAsksA
import Derived.Test.YtjebnceajpkhmaaDoorAsksB
import Derived.Test.YtjebnceajpkhmaaDoorAsksC
import Derived.Test.YtjebnceajpkhmaaDoorAsksD
namespace Go.Proofs.YtjebnceajpkhmaaDoor
open Go.RowKit

theorem asks_walk (A : Nat → Addr) (v u : Value) (n m : Nat) (f q : Nat → Int) (w : World) (hn : n ≤ 1048576) (hm : m ≤ 1048576) (hf : ∀ i, i < n → -9223372036854775808 ≤ f i ∧ f i ≤ 9223372036854775807)
    (hq : ∀ i, i < m → -9223372036854775808 ≤ q i ∧ q i ≤ 9223372036854775807) (h : Arg w v n f) (h' : Arg w u m q) (hE : Errs errL A w) :
    Calls Tryd.prog 5 #[v, u] w fun e w' => e = .returned (.bool true) ∧ Below w.heap.size w w' := by
  obtain ⟨K, hF⟩ := fits n f
  obtain ⟨L, hQ⟩ := fits m q
  obtain ⟨ao, c, rfl, hR, hA⟩ := h.row
  obtain ⟨ap, c', rfl, hP, -⟩ := h'.row
  have := hF.le
  have := hQ.le
  by_cases hlt : K < n
  · exact asks_A A ao ap n c m c' K L f q w hn hm hf hq hF hQ hA hR hP hE hlt
  · by_cases hlm : L < m
    · exact asks_B A ao ap n c m c' K L f q w hn hm hf hq hF hQ hA hR hP hE hlt (by omega) hlm
    · by_cases hne : n = m
      · exact asks_D A ao ap n c m c' K L f q w hn hm hf hq hF hQ hA hR hP hE hlt (by omega) (by omega) hne
      · exact asks_C A ao ap n c m c' K L f q w hn hm hf hq hF hQ hA hR hP hE hlt (by omega) (by omega) hne
end Go.Proofs.YtjebnceajpkhmaaDoor
