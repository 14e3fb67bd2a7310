/- A region whose last operation waits for all the others: the others may be walked in whatever order, and the last one behind them. -/
import Derived.Test.YtjebnceajpkhmaaDoorProg
import Derived.WalkKit
import Derived.OrdersHeld
import Derived.Deep.RegionHeld3
namespace Go.Proofs.YtjebnceajpkhmaaDoor

section
variable {P : Program} {md : Region.Mode} {l : List Oper} {z : Oper} {Q : Exit → Act → World → Prop}

/-- What is owed behind all but the last operation: the last one. -/
def lastQ (P : Program) (z : Oper) (Q : Exit → Act → World → Prop) : Exit → Act → World → Prop
  | .normal, a, w => z.wp P a w (Q .normal) Q
  | e, a, w => Q e a w

theorem lets_last (h : LetsOut (lastQ P z Q)) : LetsOut Q := h

theorem wp_last {o : Oper} {a : Act} {w : World} {K : Act → World → Prop} (h : o.wp P a w K (lastQ P z Q)) : o.wp P a w K Q := by
  unfold Oper.wp at *
  generalize (execOp a.eval o).run P w = r at *
  cases r with
  | ok n w' =>
    cases n <;> simp only [Oper.upon] at h ⊢ <;>
      first
        | exact h
        | exact Calls.mono h (fun e w'' he => by cases e <;> exact he)
  | halt x w' => cases x <;> simp only [Oper.upon] at h ⊢ <;> exact h

/-- Nobody is guarded; each waits for elder ones alone; the last one waits for all. -/
def lastOk (md : Region.Mode) (l : List Oper) (z : Oper) : Bool :=
  (l.all fun o => o.guard.isNone) && z.guard.isNone &&
  ((List.range l.length).all fun i => match l[i]? with | some o => o.after.all fun e => e.on < i | none => true) &&
  (z.after.all fun e => e.on < l.length) &&
  ((List.range l.length).all fun j => z.after.any fun e => Region.binds md e && e.on == j)

theorem wanted_none {o : Oper} (h : o.guard.isNone = true) (f : Nat → Option Bool) : Region.wanted o f = true := by
  cases hg : o.guard with
  | none => simp [Region.wanted, hg]
  | some g => rw [hg] at h; cases h

structure LastOk (md : Region.Mode) (l : List Oper) (z : Oper) : Prop where
  g : ∀ (i : Nat) (o : Oper), l[i]? = some o → o.guard.isNone = true
  gz : z.guard.isNone = true
  low : ∀ (i : Nat) (o : Oper), l[i]? = some o → ∀ e ∈ o.after, e.on < i
  lowz : ∀ e ∈ z.after, e.on < l.length
  all : ∀ j, j < l.length → ∃ e ∈ z.after, Region.binds md e = true ∧ e.on = j

theorem lastOk_of (h : lastOk md l z = true) : LastOk md l z := by
  simp only [lastOk, Bool.and_eq_true, List.all_eq_true, List.mem_range, Array.all_eq_true_iff_forall_mem] at h
  obtain ⟨⟨⟨⟨h1, h2⟩, h3⟩, h4⟩, h5⟩ := h
  refine ⟨fun i o ho => h1 o (List.mem_of_getElem? ho), h2, fun i o ho e he => ?_, fun e he => by simpa using h4 e he, fun j hj => ?_⟩
  · have := h3 i (List.getElem?_eq_some_iff.1 ho).1
    rw [ho] at this
    simpa using Array.all_eq_true_iff_forall_mem.1 this e he
  · obtain ⟨e, he, hb⟩ := Array.any_eq_true'.1 (h5 j hj)
    simp only [Bool.and_eq_true, beq_iff_eq] at hb
    exact ⟨e, he, hb.1, hb.2⟩

theorem at_elder {i : Nat} (h : i < l.length) : ((l ++ [z]).toArray)[i]? = l.toArray[i]? := by
  simp [List.getElem?_append_left h]
theorem at_last : ((l ++ [z]).toArray)[l.length]? = some z := by
  simp

/-- Nobody may come up: all have. -/
theorem none_ready (hk : LastOk md l z) {listed : Array Bool} (hs : listed.size = l.length) (hr : Region.ready md l.toArray listed = []) : ∀ d j, j < d → j < l.length → listed.getD j false = true := by
  intro d
  induction d with
  | zero => intro j h; omega
  | succ d ih =>
    intro j hj hl
    by_cases h : listed.getD j false = true
    · exact h
    · exfalso
      have hm : j ∈ Region.ready md l.toArray listed := by
        refine mem_ready.2 ⟨?_, l[j], by simp [hl], fun e he hb => ?_⟩
        · have hj' : j < listed.size := by omega
          simp [hj'] at h ⊢
          exact h
        · have h1 := hk.low j l[j] (by simp [hl]) e he
          exact ih e.on (by omega) (by omega)
      rw [hr] at hm
      cases hm

theorem push_elder {listed : Array Bool} {j : Nat} {d b : Bool} (h : j < listed.size) : (listed.push b).getD j d = listed.getD j d := by
  simp [Array.getElem?_push, Nat.ne_of_lt h]

/-- An elder one may come up in the whole if and only if it may among the elder ones. -/
theorem ready_elder (hk : LastOk md l z) {listed : Array Bool} (hs : listed.size = l.length) {b : Bool} {j : Nat} (hj : j < l.length) :
    j ∈ Region.ready md (l ++ [z]).toArray (listed.push b) ↔ j ∈ Region.ready md l.toArray listed := by
  rw [mem_ready, mem_ready, push_elder (by omega), at_elder hj]
  constructor
  · rintro ⟨h, o, ho, ha⟩
    refine ⟨h, o, ho, fun e he hb => ?_⟩
    have h1 := hk.low j o (by simpa using ho) e he
    rw [← push_elder (listed := listed) (b := b) (by omega)]
    exact ha e he hb
  · rintro ⟨h, o, ho, ha⟩
    refine ⟨h, o, ho, fun e he hb => ?_⟩
    have h1 := hk.low j o (by simpa using ho) e he
    rw [push_elder (by omega)]
    exact ha e he hb
theorem ready_lt {ops : Array Oper} {listed : Array Bool} {j : Nat} (h : j ∈ Region.ready md ops listed) : j < ops.size := by
  obtain ⟨-, o, ho, -⟩ := mem_ready.1 h
  exact (Array.getElem?_eq_some_iff.1 ho).1
/-- When the last may come up all others have. -/
theorem ready_last (hk : LastOk md l z) {listed : Array Bool} (hs : listed.size = l.length) (h : l.length ∈ Region.ready md (l ++ [z]).toArray (listed.push false)) : Region.ready md l.toArray listed = [] := by
  obtain ⟨-, o, ho, ha⟩ := mem_ready.1 h
  rw [at_last] at ho
  cases ho
  cases hr : Region.ready md l.toArray listed with
  | nil => rfl
  | cons j r =>
    exfalso
    have hm : j ∈ Region.ready md l.toArray listed := by rw [hr]; simp
    have hj : j < l.length := by simpa using ready_lt hm
    obtain ⟨e, he, hb, rfl⟩ := hk.all j hj
    have h1 := ha e he hb
    rw [push_elder (by omega)] at h1
    have h2 := (mem_ready.1 hm).1
    have hj' : e.on < listed.size := by omega
    simp [hj'] at h1 h2
    rw [h1] at h2
    cases h2
theorem last_ready (hk : LastOk md l z) {listed : Array Bool} (hs : listed.size = l.length) (hr : Region.ready md l.toArray listed = []) : l.length ∈ Region.ready md (l ++ [z]).toArray (listed.push false) := by
  refine mem_ready.2 ⟨by simp [← hs], z, at_last, fun e he hb => ?_⟩
  have h1 := hk.lowz e he
  rw [push_elder (by omega)]
  exact none_ready hk hs hr (e.on + 1) e.on (by omega) h1
theorem done_ready (hk : LastOk md l z) {listed : Array Bool} (hs : listed.size = l.length) (hr : Region.ready md l.toArray listed = []) : Region.ready md (l ++ [z]).toArray (listed.push true) = [] := by
  cases hr' : Region.ready md (l ++ [z]).toArray (listed.push true) with
  | nil => rfl
  | cons j r =>
    exfalso
    have hm : j ∈ Region.ready md (l ++ [z]).toArray (listed.push true) := by rw [hr']; simp
    have hj := ready_lt hm
    simp at hj
    rcases Nat.lt_or_ge j l.length with h | h
    · have := (ready_elder hk hs h).1 hm
      rw [hr] at this; cases this
    · obtain rfl : j = l.length := by omega
      have := (mem_ready.1 hm).1
      simp [← hs] at this

theorem set_push {listed : Array Bool} {i : Nat} (h : i < listed.size) (b : Bool) : (listed.push b).setIfInBounds i true = (listed.setIfInBounds i true).push b := by
  apply Array.ext_getElem?
  intro j
  rw [Array.getElem?_setIfInBounds, Array.getElem?_push, Array.getElem?_push, Array.getElem?_setIfInBounds, Array.size_setIfInBounds, Array.size_push]
  by_cases h1 : i = j
  · subst h1
    rw [if_pos rfl, if_pos (by omega), if_neg (by omega), if_pos rfl, if_pos h]
  · rw [if_neg h1, if_neg h1]
theorem set_last {listed : Array Bool} : (listed.push false).setIfInBounds listed.size true = listed.push true := by
  apply Array.ext_getElem?
  intro j
  rw [Array.getElem?_setIfInBounds, Array.getElem?_push, Array.getElem?_push, Array.size_push]
  by_cases h1 : listed.size = j
  · subst h1
    rw [if_pos rfl, if_pos (by omega), if_pos rfl]
  · rw [if_neg h1, if_neg (fun e => h1 e.symm), if_neg (fun e => h1 e.symm)]

/-- The last operation, once all others have come up. -/
theorem last_step (hk : LastOk md l z) {listed : Array Bool} (hs : listed.size = l.length) (hr : Region.ready md l.toArray listed = []) {a : Act} {w : World} (h : z.wp P a w (Q .normal) Q) (fuel : Nat) :
    wpAny P md (l ++ [z]).toArray Q (fuel + 1) (listed.push false) a w := by
  refine ⟨fun h0 => ?_, fun i hi => ?_⟩
  · have := last_ready (z := z) hk hs hr
    rw [h0] at this; cases this
  · have hlt := ready_lt hi
    simp at hlt
    rcases Nat.lt_or_ge i l.length with h1 | h1
    · have := (ready_elder hk hs h1).1 hi
      rw [hr] at this; cases this
    · obtain rfl : i = l.length := by omega
      unfold wpOp
      rw [at_last]
      simp only []
      rw [if_pos (wanted_none hk.gz _), ← hs, set_last]
      exact .inl (Oper.wp_mono (fun a' w' hq => wpAny_done (done_ready hk hs hr) hq fuel) h)

theorem wpAny_last (hk : LastOk md l z) : ∀ (fuel : Nat) (listed : Array Bool) (a : Act) (w : World), listed.size = l.length → wpAny P md l.toArray (lastQ P z Q) fuel listed a w → wpAny P md (l ++ [z]).toArray Q (fuel + 1) (listed.push false) a w := by
  intro fuel
  induction fuel with
  | zero => exact fun listed a w hs h => last_step hk hs h.1 h.2 0
  | succ fuel ih =>
    intro listed a w hs h
    by_cases hr : Region.ready md l.toArray listed = []
    · exact last_step hk hs hr (h.1 hr) (fuel + 1)
    refine ⟨fun h0 => ?_, fun i hi => ?_⟩
    · exfalso
      refine hr ?_
      cases hr' : Region.ready md l.toArray listed with
      | nil => rfl
      | cons j r =>
        exfalso
        have hm : j ∈ Region.ready md l.toArray listed := by rw [hr']; simp
        have := (ready_elder (b := false) hk hs (by simpa using ready_lt hm)).2 hm
        rw [h0] at this; cases this
    · have hlt := ready_lt hi
      simp at hlt
      rcases Nat.lt_or_ge i l.length with h1 | h1
      · have h2 := h.2 i ((ready_elder hk hs h1).1 hi)
        rw [set_push (by omega)]
        unfold wpOp at h2 ⊢
        rw [at_elder h1]
        have ho : l.toArray[i]? = some l[i] := by simp [h1]
        rw [ho] at h2 ⊢
        simp only [] at h2 ⊢
        rw [if_pos (wanted_none (hk.g i l[i] (by simp [h1])) _)] at h2 ⊢
        rcases h2 with h2 | ⟨h2, h3⟩
        · exact .inl (wp_last (Oper.wp_mono (fun a' w' hq => ih _ a' w' (by simpa using hs) hq) h2))
        · exact .inr ⟨h2, lets_last h3⟩
      · obtain rfl : i = l.length := by omega
        exact absurd (ready_last hk hs hi) hr

/-- A region whose last operation waits for all the others. -/
theorem wp_region_last {id : Nat} {ops : Array Oper} {S : World → Prop} {a : Act} {w : World} (hops : ops = (l ++ [z]).toArray) (hk : lastOk .any l z = true) (hm : P.follows .mixedOrders = true) (hS : S w.drew)
    (h : S w.drew → wpAnyH P .any l.toArray (lastQ P z Q) S l.length (Array.replicate l.length false) a w.drew) : (Code.region id ops true).wp P Q a w := by
  subst hops
  refine wp_region_any hm ?_
  have e : (l ++ [z]).toArray.size = l.length + 1 := by simp
  rw [e]
  have e2 : Array.replicate (l.length + 1) false = (Array.replicate l.length false).push false := by rw [Array.replicate_succ]
  rw [e2]
  exact wpAny_last (lastOk_of hk) _ _ _ _ (by simp) (wpAny_of_held _ _ _ _ (h hS))
/-- .. the operations as a list. -/
theorem wp_region_last2 {id : Nat} {os : List Oper} {S : World → Prop} {a : Act} {w : World} (hne : os ≠ []) (hk : lastOk .any os.dropLast (os.getLast hne) = true) (hm : P.follows .mixedOrders = true) (hS : S w.drew)
    (h : S w.drew → wpAnyH P .any os.dropLast.toArray (lastQ P (os.getLast hne) Q) S os.dropLast.length (Array.replicate os.dropLast.length false) a w.drew) : (Code.region id os.toArray true).wp P Q a w :=
  wp_region_last (by rw [List.dropLast_concat_getLast]) hk hm hS h
end
end Go.Proofs.YtjebnceajpkhmaaDoor
