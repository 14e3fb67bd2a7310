/- The iterator of perm.Cycles, for every loop body that keeps its word; a range over it that collects. -/
import Derived.Test.YtjebnceajpkhmaaDoorIte
import Derived.RangeFuncNested
import Derived.RangeFuncBound
import Derived.RangeFuncCalls
import Derived.RangeFuncLeaves
import Derived.Shelf.Abstract
import Derived.Shelf.RegionOpen
import Derived.WalkKit
import Derived.OwnWalkIn
import Derived.TacticsInMore
import Derived.LoopNIn
import Derived.LoopIn
namespace Go.Proofs.YtjebnceajpkhmaaDoor
open Go.RowKit Go.Shelf
attribute [local go_sem] Oper.semAt_some

set_option maxRecDepth 100000 in
set_option maxHeartbeats 2000000 in
/-- The iterator: 'for _, one := range list { if !yield(append([]int(nil), one...)) { return } }'. -/
theorem closure_in (F : Fence) (n : Nat) (h30 : F.fn 30) (hro : F.round = none) (hn : 1 ≤ n) (l Bc m : Nat) (a : Option Addr) (c : Nat) (ln : Nat → Nat) (g : Nat → Nat → Int) (J Jx : Nat → World → Prop) (hm : m ≤ 1048576)
    (hpos : ∀ k, k < m → 1 ≤ ln k ∧ ln k ≤ 1048576) (hJr : ∀ k W, J k W → Rows2 W a m ln g) (hJg : ∀ k W W', J k W → W.grownBy W' none → J k W')
    (hY : ∀ k v W, J k W → k < m → (∃ W0, J k W0 ∧ W0.grownBy W none ∧ Told W0.heap.size W v (ln k) (g k)) → YieldAt F (n - 1) Tryd.prog l #[v] W fun e W' => (e = .returned (.bool true) ∧ J (k + 1) W') ∨ (e = .returned (.bool false) ∧ Jx (k + 1) W'))
    (W : World) (hc : W.cell? ⟨Bc, 0, none⟩ = some (.slice a m c)) (h0 : J 0 W) :
    CallsIn F n Tryd.prog 30 #[.func (.yield l) #[] #[], .pointer (some ⟨Bc, 0, none⟩)] W fun e W' => (∃ v, e = .returned v) ∧ (J m W' ∨ ∃ k, k ≤ m ∧ Jx k W') := by
  obtain ⟨i0, hi, hz0, hz1, hz2⟩ := info_parts info3i
  refine callsIn_of_wp Tryd.func30 rfl h30 ?_ hro
  simp only [Tryd.ntmps30, List.size_toArray, List.length_cons, List.length_nil, Nat.reduceAdd, Nat.reduceSub, Array.replicate_succ, Array.replicate_zero, List.push_toArray, List.append_toArray, List.nil_append, List.cons_append]
  gi_wp2
  gi_loopw [7] (fun i wr => ∃ k : Nat, k ≤ m ∧ i = .int .i64 k ∧ J k wr) (fun i _ => m - (intOf i).toNat)
  case atStart => exact ⟨0, Nat.zero_le _, rfl, h0⟩
  case round =>
    obtain ⟨k, hk, rfl, hJs⟩ := hrel
    by_cases hlt : k < m
    · rcases hJr k wr hJs with hz | ⟨b, rfl, hR⟩
      · omega
      obtain ⟨ac, kc, c1, hrow, -⟩ := hR k hlt
      obtain ⟨hp1, hp2⟩ := hpos k hlt
      rcases hrow with hz | ⟨b', off', rfl, hI⟩
      · omega
      have q1 : (0 : Int) ≤ (k : Int) := by omega
      have q2 : (k : Int) < (m : Int) := by omega
      gi_wp2_with (gi_at_builtin; refine wpListIn_append_own _ rfl _ _ 22 rfl wr.heap.size 3 i0 (.int .i64 0) 1 8 Tryd.underlying22 hi hz0 hz1 hz2 rfl (by decide) (.slice none 0 0) 0 [] rfl (World.ownsRow_nil _ _ _ _) ⟨b', off', none⟩ (ln k) kc (ints (ln k) (g k)) rfl (by rw [ints_len]; omega) ?cells (ints_one _ _) (by unfold maxLen; omega) (by omega) (Nat.le_refl _) ?_)
      case cells =>
        intro j u hu
        obtain ⟨hj, rfl⟩ := ints_at' hu
        have := hI j hj
        cases j <;> simpa [Addr.add] using this
      intro v' w1 hown' hgrow _
      have hT : Told wr.heap.size w1 v' (ln k) (g k) := by
        unfold Told
        simpa using hown'
      obtain ⟨fn, tmps, assign, body, hy, hRo⟩ := hY k v' w1 (hJg k wr w1 hJs hgrow) hlt ⟨wr, hJs, hgrow, hT⟩
      clear hown' hgrow hI hR c1
      gi_wp2
      refine hRo.mono ?_
      rintro e W3 (⟨rfl, hJ3⟩ | ⟨rfl, hJ3⟩)
      · gi_wp2
        go_roundw
        case rel => exact ⟨k + 1, by omega, by simp, hJ3⟩
        case measure => simp [intOf]; omega
      · gi_wp2
        refine bodyPost_ret (results_none rfl _ _ _) rfl ?_
        exact ⟨⟨_, rfl⟩, .inr ⟨k + 1, by omega, hJ3⟩⟩
    · obtain rfl : k = m := by omega
      gi_wp2
      go_end0
      exact ⟨⟨_, rfl⟩, .inl hJs⟩

/-- Block l is no row of cells. -/
def NotCells (l : Nat) (W : World) : Prop := ∀ cs t fr, W.heap[l]? ≠ some (.cells cs t fr)
/-- Nothing but block l has turned. -/
structure Sim (l : Nat) (W W' : World) : Prop where
  os : W'.os = W.os
  tape : W'.tape = W.tape
  output : W'.output = W.output
  size : W.heap.size ≤ W'.heap.size
  block : ∀ b, b < W.heap.size → b ≠ l → W'.heap[b]? = W.heap[b]?
  keep : NotCells l W → NotCells l W'
theorem Sim.of_grown {l : Nat} {W W' : World} (hl : l < W.heap.size) (h : W.grownBy W' none) : Sim l W W' :=
  ⟨h.os, h.tape, h.output, h.size, fun b hb _ => h.block b hb (by simp), fun hn cs t fr he => hn cs t fr ((h.block l hl (by simp)).symm.trans he)⟩
theorem Sim.put (l : Nat) (W : World) (r : Loop) : Sim l W (W.putObj l (.loop r)) := ⟨rfl, rfl, rfl, by simp, fun b _ hne => World.putObj_heap_other hne, fun _ cs t fr he => by
  rcases Nat.lt_or_ge l W.heap.size with h | h
  · rw [World.putObj_heap_same h] at he; cases he
  · rw [Array.getElem?_eq_none (by simpa using h)] at he; cases he⟩
theorem Sim.cell {l : Nat} {W W' : World} (h : Sim l W W') {p : Addr} {v : Value} (hc : W.cell? p = some v) (hne : p.block ≠ l) : W'.cell? p = some v := (World.cell?_of_block (h.block _ (cell_lt hc) hne)).trans hc

/-- The record of a loop over the iterator. -/
def recOf (fn : FuncId) (tmps : Array Value) (ps : Array Tmp) (assign body : Code) (D : Nat) (st : LoopState) (pend : Option Code) : Loop :=
  { state := st, pending := pend, fn, tmps, params := ps, assign, body, defers := D }

/-- How the body of a round may be left. -/
def leaves (l D : Nat) (I : Nat → World → Prop) (Ix : Code → Nat → World → Prop) (k : Nat) (W : World) : Exit → Act → World → Prop
  | .normal, _, W' => (W'.heap[l]? = W.heap[l]? ∧ W'.heap[D]? = W.heap[D]?) ∧ I (k + 1) W'
  | .ret, _, W' => (W'.heap[l]? = W.heap[l]? ∧ W'.heap[D]? = W.heap[D]?) ∧ Ix .ret (k + 1) W'
  | .exit id, _, W' => (W'.heap[l]? = W.heap[l]? ∧ W'.heap[D]? = W.heap[D]?) ∧ Ix (.exit id) (k + 1) W'
  | _, _, _ => False

set_option maxHeartbeats 2000000 in
/-- A range over the iterator of perm.Cycles: what the caller owes is a walk of its body. -/
theorem range_in (F : Fence) (n : Nat) (h30 : F.fn 30) (hro : F.round = none) (hn : 3 ≤ n) (Bc m : Nat) (a0 : Option Addr) (c : Nat) (ln : Nat → Nat) (g : Nat → Nat → Int) (hm : m ≤ 1048576) (hpos : ∀ k, k < m → 1 ≤ ln k ∧ ln k ≤ 1048576)
    {gv : Operand} {ps : Array Tmp} {assign body : Code} {Q : Exit → Act → World → Prop} {a : Act} {w : World} (hps : ps.size = 1)
    (hg : a.eval gv = .func (.func 30) #[] #[.pointer (some ⟨Bc, 0, none⟩)]) (hc : w.cell? ⟨Bc, 0, none⟩ = some (.slice a0 m c))
    (I : Nat → World → Prop) (Ix : Code → Nat → World → Prop) (hI : ∀ k W W', I k W → Sim (w.heap.size + 1) W W' → I k W') (hIx : ∀ c k W W', Ix c k W → Sim (w.heap.size + 1) W W' → Ix c k W')
    (hIr : ∀ k W, I k W → Rows2 W a0 m ln g) (h0 : I 0 w) (A1 : Value → Act)
    (hassign : ∀ (v : Value) (W : World) (K : Act → World → Prop), K (A1 v) W → assign.wpIn (F.inRound (w.heap.size + 1)) (n - 1 - 1) Tryd.prog (Exit.then K (fun _ _ _ => False)) { tmps := (ps.zip #[v]).foldl (fun tmps (t, a) => tmps.setIfInBounds t a) a.tmps, defers := [] } W)
    (hbody : ∀ k v W, k < m → I k W → (∃ W0, I k W0 ∧ W0.heap.size ≤ W.heap.size ∧ (∀ b, b < W0.heap.size → b ≠ w.heap.size + 1 → W.heap[b]? = W0.heap[b]?) ∧ Told W0.heap.size W v (ln k) (g k)) → w.heap.size + 1 < W.heap.size → (∃ r, W.heap[w.heap.size + 1]? = some (.loop r)) → (∃ r, W.heap[w.heap.size]? = some (.deferred r)) → body.wpIn (F.inRound (w.heap.size + 1)) (n - 1 - 1) Tryd.prog (leaves (w.heap.size + 1) w.heap.size I Ix k W) (A1 v) W)
    (hdone : ∀ W, I m W → W.heap[w.heap.size]? = some (.deferred (some [])) → Q .normal { a with defers := [{ target := .collected w.heap.size, args := #[] }] ++ a.defers } W)
    (hstop : ∀ c k W, k ≤ m → Ix c k W → W.heap[w.heap.size]? = some (.deferred (some [])) → c.wpIn F n Tryd.prog Q { a with defers := [{ target := .collected w.heap.size, args := #[] }] ++ a.defers } W) :
    (Code.rangeFunc gv ps assign body).wpIn F n Tryd.prog Q a w := by
  refine wpIn_rangeFunc ?_
  intro fn hfn
  rw [hro]
  obtain ⟨W1, hW1⟩ : ∃ W1, (w.alloc (.deferred (some []))).alloc (.loop (recOf fn a.tmps ps assign body w.heap.size .ready none)) = W1 := ⟨_, rfl⟩
  have hs1 : Sim (w.heap.size + 1) w W1 := by
    rw [← hW1]
    exact ⟨rfl, rfl, rfl, by simp; omega, fun b hb _ => (Below.heap_alloc _ _ b (by simp; omega)).trans (Below.heap_alloc _ _ b hb), fun _ cs t fr he => by
      have := World.alloc_heap_new (w.alloc (.deferred (some []))) (.loop (recOf fn a.tmps ps assign body w.heap.size .ready none))
      rw [World.size_alloc] at this
      rw [this] at he
      cases he⟩
  have hL1 : W1.heap[w.heap.size + 1]? = some (.loop (recOf fn a.tmps ps assign body w.heap.size .ready none)) := by
    rw [← hW1]
    have := World.alloc_heap_new (w.alloc (.deferred (some []))) (.loop (recOf fn a.tmps ps assign body w.heap.size .ready none))
    rwa [World.size_alloc] at this
  have hD1 : W1.heap[w.heap.size]? = some (.deferred (some [])) := by
    rw [← hW1]
    exact (Below.heap_alloc _ _ _ (by simp)).trans (World.alloc_heap_new w _)
  refine ⟨w.heap.size + 1, [{ target := .collected w.heap.size, args := #[] }], W1, { target := .fn (.func 30) #[.pointer (some ⟨Bc, 0, none⟩)], args := #[.func (.yield (w.heap.size + 1)) #[] #[]] }, W1, 30,
    #[.func (.yield (w.heap.size + 1)) #[] #[], .pointer (some ⟨Bc, 0, none⟩)], W1, ?_, ?_, ?_, ?_, fun _ => by omega, ?_⟩
  · rw [← hW1]; exact run_enterLoop_outer _ _ _ _ _
  · simp only [resolve]
    rw [hg]
    simp [Deferred.ofValue, go_sem]
  · intro f' hf'; simp [Target.leads] at hf'; subst hf'; exact h30
  · simp [invoke, go_sem]
  · refine (closure_in F (n - 1) h30 hro (by omega) (w.heap.size + 1) Bc m a0 c ln g
      (fun k W => I k W ∧ W.heap[w.heap.size + 1]? = some (.loop (recOf fn a.tmps ps assign body w.heap.size .ready none)) ∧ W.heap[w.heap.size]? = some (.deferred (some [])))
      (fun k W => ∃ c, Ix c k W ∧ W.heap[w.heap.size + 1]? = some (.loop (recOf fn a.tmps ps assign body w.heap.size .done (some c))) ∧ W.heap[w.heap.size]? = some (.deferred (some [])))
      hm hpos (fun k W h => hIr k W h.1) ?_ ?_ W1 (hs1.cell hc ?_) ⟨hI 0 w W1 h0 hs1, hL1, hD1⟩).mono ?_
    · rintro k W W' ⟨h1, h2, h3⟩ hgr
      exact ⟨hI k W W' h1 (Sim.of_grown (Array.getElem?_eq_some_iff.1 h2).1 hgr), (hgr.block _ (Array.getElem?_eq_some_iff.1 h2).1 (by simp)).trans h2, (hgr.block _ (Array.getElem?_eq_some_iff.1 h3).1 (by simp)).trans h3⟩
    · rintro k v W ⟨h1, h2, h3⟩ hk ⟨W0, ⟨hI0, -, -⟩, hgr0, hT⟩
      refine ⟨fn, (ps.zip #[v]).foldl (fun tmps (t, a) => tmps.setIfInBounds t a) a.tmps, assign, body, by simpa [recOf] using run_yield (P := Tryd.prog) (args := #[v]) h2 (by simp [recOf, hps]), roundIn_of_wpIn hfn (hassign v W _ ⟨_, run_beginRound (P := Tryd.prog) h2 rfl, ?_⟩)⟩
      have hl : w.heap.size + 1 < W.heap.size := (Array.getElem?_eq_some_iff.1 h2).1
      obtain ⟨W2, hW2⟩ : ∃ W2, W.putObj (w.heap.size + 1) (.loop { recOf fn a.tmps ps assign body w.heap.size .ready none with state := .busy }) = W2 := ⟨_, rfl⟩
      have hsim : Sim (w.heap.size + 1) W W2 := by rw [← hW2]; exact Sim.put _ _ _
      have hL2 : W2.heap[w.heap.size + 1]? = some (.loop { recOf fn a.tmps ps assign body w.heap.size .ready none with state := .busy }) := by rw [← hW2]; exact World.putObj_heap_same hl
      have hK2 : W2.heap[w.heap.size]? = some (.deferred (some [])) := by rw [← hW2]; exact (World.putObj_heap_other (by omega)).trans h3
      have hsz : W2.heap.size = W.heap.size := by rw [← hW2]; simp
      rw [hW2]
      have hT2 : Told W0.heap.size W2 v (ln k) (g k) := by
        obtain ⟨e1, e2 | ⟨gb, cap, cur, e3, e4, e5, e6⟩⟩ := hT
        · exact ⟨e1, .inl e2⟩
        · refine ⟨e1, .inr ⟨gb, cap, cur, e3, e4, (hsim.block gb (Array.getElem?_eq_some_iff.1 e5).1 fun e => ?_).trans e5, e6⟩⟩
          rw [e, h2] at e5
          cases e5
      refine Code.wpIn_mono ?_ (hbody k v W2 hk (hI k W W2 h1 hsim) ⟨W0, hI0, by rw [hsz]; exact hgr0.size, fun b hb hne => (hsim.block b (Nat.lt_of_lt_of_le hb hgr0.size) hne).trans (hgr0.block b hb (by simp)), hT2⟩ (by omega) ⟨_, hL2⟩ ⟨_, hK2⟩)
      rintro e a' W3 hlv
      cases e with
      | normal =>
        obtain ⟨⟨hl3, hd3⟩, hI3⟩ := hlv
        refine ⟨_, _, run_endRound none (hl3.trans hL2), .inl ⟨rfl, hI _ _ _ hI3 (Sim.put _ _ _), ?_, ?_⟩⟩
        · exact World.putObj_heap_same (Array.getElem?_eq_some_iff.1 (hl3.trans hL2)).1
        · exact (World.putObj_heap_other (by omega)).trans (hd3.trans hK2)
      | ret =>
        obtain ⟨⟨hl3, hd3⟩, hI3⟩ := hlv
        refine ⟨_, _, run_endRound (some .ret) (hl3.trans hL2), .inr ⟨rfl, .ret, hIx _ _ _ _ hI3 (Sim.put _ _ _), ?_, ?_⟩⟩
        · exact World.putObj_heap_same (Array.getElem?_eq_some_iff.1 (hl3.trans hL2)).1
        · exact (World.putObj_heap_other (by omega)).trans (hd3.trans hK2)
      | exit id =>
        obtain ⟨⟨hl3, hd3⟩, hI3⟩ := hlv
        refine ⟨_, _, run_endRound (some (.exit id)) (hl3.trans hL2), .inr ⟨rfl, .exit id, hIx _ _ _ _ hI3 (Sim.put _ _ _), ?_, ?_⟩⟩
        · exact World.putObj_heap_same (Array.getElem?_eq_some_iff.1 (hl3.trans hL2)).1
        · exact (World.putObj_heap_other (by omega)).trans (hd3.trans hK2)
      | _ => exact hlv.elim
    · have := cell_lt hc; show Bc ≠ _; simp at this; omega
    · rintro e W2 ⟨⟨v, rfl⟩, ⟨h1, h2, h3⟩ | ⟨k, hk, c2, h1, h2, h3⟩⟩
      · have hend := run_endLoop (P := Tryd.prog) h2 (by simp [recOf])
        refine ⟨none, _, hend, ?_⟩
        exact hdone _ (hI m W2 _ h1 (Sim.put _ _ _)) ((World.putObj_heap_other (by omega)).trans h3)
      · have hend := run_endLoop (P := Tryd.prog) h2 (by simp [recOf])
        refine ⟨some c2, _, hend, ?_⟩
        exact hstop c2 k _ hk (hIx c2 k W2 _ h1 (Sim.put _ _ _)) ((World.putObj_heap_other (by omega)).trans h3)
end Go.Proofs.YtjebnceajpkhmaaDoor
