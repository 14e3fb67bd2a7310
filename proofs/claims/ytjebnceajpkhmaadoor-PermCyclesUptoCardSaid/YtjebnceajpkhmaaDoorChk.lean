/- What perm.Check answers. -/
import Derived.Test.YtjebnceajpkhmaaDoorDig3
namespace Go.Proofs.YtjebnceajpkhmaaDoor
open Go.RowKit

/-- Is x among the first k numbers? -/
def mem (f : Nat → Int) (k : Nat) (x : Int) : Bool := (List.range k).any fun j => f j == x
theorem mem_zero (f : Nat → Int) (x : Int) : mem f 0 x = false := rfl
theorem mem_succ (f : Nat → Int) (k : Nat) (x : Int) : mem f (k + 1) x = (mem f k x || f k == x) := by simp [mem, List.range_succ]
theorem mem_iff (f : Nat → Int) (k : Nat) (x : Int) : mem f k x = true ↔ ∃ j, j < k ∧ f j = x := by simp [mem]

/-- Place k is fit: its number lies in range and did not come before. -/
def Fit (n : Nat) (f : Nat → Int) (k : Nat) : Prop := 0 ≤ f k ∧ f k < n ∧ mem f k (f k) = false
/-- The first K places are fit, the next is not. -/
structure Fits (n : Nat) (f : Nat → Int) (K : Nat) : Prop where
  le : K ≤ n
  fit : ∀ j, j < K → Fit n f j
  not : K < n → ¬ Fit n f K
theorem fits (n : Nat) (f : Nat → Int) : ∃ K, Fits n f K := by
  obtain ⟨K, h1, h2, h3⟩ := first (p := Fit n f) n
  exact ⟨K, h1, h2, h3⟩

theorem info4i : (Tryd.prog.info? 4).map (fun i => (i.zero, i.size, i.bytes)) = some (some (.bool false), 1, 1) := by kernel_rfl
/-- A new list of M falses. -/
def Zb (M : Nat) : Obj := .cells (madeCells (Value.bool false).cells M) 4
theorem Zb_cell (w : World) (n j : Nat) (hj : j < n) : (w.alloc (Zb n)).cell? ⟨w.heap.size, j, none⟩ = some (.bool false) ∧ (w.alloc (Zb n)).frozen? ⟨w.heap.size, j, none⟩ = false := by
  refine ⟨?_, ?_⟩
  · unfold Zb
    rw [World.cell?_alloc_at _ _ _ _ rfl]
    simp [madeCells, Value.cells, hj, Nat.mod_one]
  · unfold Zb
    rw [World.frozen?_alloc_at _ _ _ _ rfl]
theorem mk_b (n : Nat) (hn : n ≤ 17592186044416) (w : World) : (Instr.makeSlice 39 (.int .i64 (n : Int)) (.int .i64 (n : Int))).run Tryd.prog w = .ok (.slice (some ⟨w.heap.size, 0, none⟩) n n) (w.alloc (Zb n)) := by
  obtain ⟨i0, hi, hz0, hz1, hz2⟩ := info_parts info4i
  have := run_make (P := Tryd.prog) (w := w) 39 4 i0 _ Tryd.underlying39 hi hz0 .i64 .i64 (n : Int) (n : Int) (by omega) (by omega) (by rw [hz2]; omega) (by omega)
  rw [hz1] at this
  simpa [Zb] using this

/-- The marks under way: place x of block X tells whether s x. -/
structure Seen (n X : Nat) (s : Int → Bool) (W0 w : World) : Prop where
  cell : ∀ x : Nat, x < n → w.cell? ⟨X, x, none⟩ = some (.bool (s x)) ∧ w.frozen? ⟨X, x, none⟩ = false
  lt : X < w.heap.size
  lo : W0.heap.size ≤ X
  bel : Below W0.heap.size W0 w
theorem Seen.start {n : Nat} {s : Int → Bool} {W0 w : World} (h : Below W0.heap.size W0 w) (hs : ∀ x, s x = false) : Seen n w.heap.size s W0 (w.alloc (Zb n)) :=
  ⟨fun j hj => ⟨by rw [hs]; exact (Zb_cell w n j hj).1, (Zb_cell w n j hj).2⟩, by simp, h.size, h.alloc h.size _⟩
theorem Seen.step {n X x : Nat} {s s' : Int → Bool} {W0 w : World} (h : Seen n X s W0 w) (hx : x < n) (hs : ∀ y : Nat, s' (y : Int) = if y = x then true else s y) : Seen n X s' W0 (w.setCell ⟨X, x, none⟩ (.bool true)) := by
  have key : ∀ j, j ≠ x → (w.setCell ⟨X, x, none⟩ (.bool true)).cell? ⟨X, j, none⟩ = w.cell? ⟨X, j, none⟩ := fun j hj => World.cell?_setCell_other _ _ _ _ (fun he => hj (Addr.mk.inj he).2.1.symm)
  refine ⟨fun j hj => ⟨?_, by rw [World.frozen?_setCell]; exact (h.cell j hj).2⟩, by simpa using h.lt, h.lo, h.bel.setCell h.lo _⟩
  rw [hs j]
  by_cases e : j = x
  · subst e; rw [if_pos rfl]; exact World.cell?_setCell_same _ _ _ (h.cell j hj).1
  · rw [if_neg e, key j e]; exact (h.cell j hj).1

theorem Seen.push {n X : Nat} {f : Nat → Int} {k x : Nat} {W0 w : World} (h : Seen n X (mem f k) W0 w) (hx : x < n) (hf : f k = x) : Seen n X (mem f (k + 1)) W0 (w.setCell ⟨X, x, none⟩ (.bool true)) :=
  h.step hx fun y => by
    rw [mem_succ, hf]
    by_cases e : y = x
    · simp [e]
    · have : ¬ (x : Int) = (y : Int) := by omega
      simp [e, this]

/-- What Check answers. -/
def OutC (A : Nat → Addr) (n K : Nat) : Value := if K < n then er A 11 else .nilIface

set_option maxRecDepth 100000 in
theorem check_any (A : Nat → Addr) (ao : Option Addr) (n c : Nat) (f : Nat → Int) (w : World) (hn : n ≤ 17592186044416) (hf : ∀ i, i < n → -9223372036854775808 ≤ f i ∧ f i ≤ 9223372036854775807) (K : Nat) (hF : Fits n f K) (h : Row w ao n f) (hE : Glo A w) :
    Calls Tryd.prog 14 #[.slice ao n c] w fun e w' => e = .returned (OutC A n K) ∧ Below w.heap.size w w' := by
  obtain ⟨-, -, g0⟩ := hE
  have H := Lib.hid h
  have HF := Lib.hid hF
  have HV := Lib.hid hf
  have HG := Lib.hid g0
  have hk := hF.le
  clear h hF hf g0
  have hmk := mk_b n hn
  go_enter Tryd.func14, Tryd.ntmps14
  go_wp2_with fail
  clear hmk
  go_loopw [11] (fun i wr => ∃ k : Nat, k ≤ K ∧ i = .int .i64 k ∧ Seen n w.heap.size (mem f k) w wr) (fun i _ => K - (intOf i).toNat)
  case atStart => exact ⟨0, by omega, rfl, Seen.start (Below.refl _ _) (mem_zero f)⟩
  case round =>
    obtain ⟨k, hkK, rfl, hS⟩ := hrel
    have HS := Lib.hid hS
    clear hS
    by_cases hlt : k < n
    · rcases H.out with h0 | ⟨b, off, rfl, hI⟩
      · omega
      have c1 : wr.cell? ⟨b, off + k, none⟩ = some (.int .i64 (f k)) := (HS.out.bel.cell (cell_lt (hI k hlt))).trans (hI k hlt)
      clear hI
      have q1 : (0 : Int) ≤ (k : Int) := by omega
      have q2 : (k : Int) < (n : Int) := by omega
      have hv := HV.out k hlt
      have g0 : wr.cell? ⟨0, 0, none⟩ = _ := (HS.out.bel.cell (cell_lt HG.out)).trans HG.out
      by_cases hlt1 : k < K
      · obtain ⟨r1, r2, r3⟩ := HF.out.fit k hlt1
        obtain ⟨x, hx⟩ : ∃ x : Nat, f k = x := ⟨(f k).toNat, by omega⟩
        have HX := Lib.hid hx
        rw [hx] at c1 r1 r2 r3
        have hxn : x < n := by omega
        obtain ⟨c2, c3⟩ := HS.out.cell x hxn
        rw [r3] at c2
        clear r3 hv hx g0
        have r4 : ¬ ((x : Int) < 0) := by omega
        have r5 : ¬ ((n : Int) ≤ (x : Int)) := by omega
        go_wp2_with fail
        go_roundw
        case rel => exact ⟨k + 1, by omega, by go_num, HS.out.push hxn HX.out⟩
        case measure => simp [intOf]; omega
      · obtain rfl : k = K := by omega
        have hnf := HF.out.not hlt
        by_cases r1 : f k < 0
        · go_wp2_with fail
          go_ret
          exact ⟨by rw [OutC, if_pos hlt]; rfl, HS.out.bel⟩
        · by_cases r2 : (n : Int) ≤ f k
          · go_wp2_with fail
            go_ret
            exact ⟨by rw [OutC, if_pos hlt]; rfl, HS.out.bel⟩
          · obtain ⟨x, hx⟩ : ∃ x : Nat, f k = x := ⟨(f k).toNat, by omega⟩
            have hxn : x < n := by omega
            obtain ⟨c2, c3⟩ := HS.out.cell x hxn
            have r3 : mem f k x = true := by
              cases hm : mem f k x
              · exact absurd ⟨by omega, by omega, by rw [hx]; exact hm⟩ hnf
              · rfl
            rw [r3] at c2
            rw [hx] at c1 r1 r2
            clear r3 hv hx hnf
            have r6 : (0 : Int) ≤ (x : Int) := by omega
            have r7 : (x : Int) < (n : Int) := by omega
            go_wp2_with fail
            go_ret
            exact ⟨by rw [OutC, if_pos hlt]; rfl, HS.out.bel⟩
    · obtain rfl : k = n := by omega
      obtain rfl : k = K := by omega
      go_wp2_with fail
      go_ret
      exact ⟨by rw [OutC, if_neg (by omega)]; rfl, HS.out.bel⟩
end Go.Proofs.YtjebnceajpkhmaaDoor
