/- What the condition 'these variables read as these errors' gives a walk: each variable's cell, the text behind it, and that no two of them are one. -/
import Derived.Test.YtjebnceajpkhmaaDoorRows
import Derived.LaidLaws
import Derived.LaidMore
import Derived.Below
namespace Go.Proofs.YtjebnceajpkhmaaDoor
open Go.ChangeShapes Go.WideShapes Go.RowKit

theorem tyErr : Tryd.prog.underlying 27 = some (.interface #[("Error", 61)]) := Tryd.underlying27
theorem nameRow (u : TypeId) (h : Tryd.prog.typeName? 3 u = some "*errors.errorString") : u = 60 :=
  typeName_ptr_named (nm := "errors.errorString") (by rw [show "*" ++ "errors.errorString" = "*errors.errorString" by decide]; kernel_rfl) (by kernel_rfl) (by decide) u (by rw [show "*" ++ "errors.errorString" = "*errors.errorString" by decide]; exact h)
theorem cellsES : Tryd.prog.cellsOf 78 = 1 := by kernel_rfl
theorem cellsStr : Tryd.prog.cellsOf 9 = 1 := by kernel_rfl

/-- An error made by errors.New, as data. -/
def sent {H : Type} (text : List UInt8) : DataW H := .iface "*errors.errorString" (.ptr (.agg [.lit (.string text)]))

/-- Variable g holds the error at a, whose text is the given one. -/
structure Sent (w : World) (g : Nat) (a : Addr) (text : List UInt8) : Prop where
  glob : w.cell? ⟨g, 0, none⟩ = some (.iface 60 (.pointer (some a)))
  cell : w.cell? a = some (.string ⟨text.toArray⟩)
  blk : ∃ c t, w.heap[a.block]? = some (.cells c t (0, 0))

noncomputable def named (x : String × Nat × List UInt8) : Bool := Tryd.prog.globalNamed x.1 == some x.2.1 && (Tryd.prog.globals[x.2.1]?).map (·.type) == some 27

theorem sents_of {w : World} : ∀ (L : List (String × Nat × List UInt8)) (ps : List MemPlace), (∀ x ∈ L, named x = true) → DataW.LaidVars Tryd.prog w (L.map fun x => (x.1, sent x.2.2)) ps →
    (∀ b off, MemPlace.cell b off ∈ ps → (∃ c t, w.heap[b]? = some (.cells c t (0, 0))) ∧ ∀ u v, w.cell? ⟨b, off, none⟩ = some (.iface u v) → Value.okWide Tryd.prog w .any 0 u v) →
    ∃ ad : List Addr, ad.length = L.length ∧ (∀ (i : Nat) (x : String × Nat × List UInt8) (a : Addr), L[i]? = some x → ad[i]? = some a → Sent w x.2.1 a x.2.2 ∧ a.spot = none) ∧ (ad.map fun a => MemPlace.cell a.block a.off).Sublist ps
  | [], ps, _, h, _ => ⟨[], rfl, fun i x a hx _ => by simp at hx, by simp⟩
  | (n, g, text) :: r, ps, hn, h, hrows => by
    obtain ⟨g', t', cs, f, p, q, hg, ht, hv, hd, hr, rfl⟩ := h
    have hnm := hn (n, g, text) (by simp)
    simp only [named, Bool.and_eq_true, beq_iff_eq] at hnm
    obtain rfl := Option.some.inj (hnm.1.symm.trans hg)
    obtain rfl := Option.some.inj (hnm.2.symm.trans ht)
    obtain ⟨l⟩ := cs
    have ok0 : ∀ u v, l = [.iface u v] → Value.okWide Tryd.prog w .any 0 u v := fun u v e => by
      subst e
      exact (hrows g 0 (by simp [MemPlace.row])).2 u v (by simpa using World.var?_cell hg hv 0)
    obtain ⟨a, s, rfl, hc, hs, hz, rfl⟩ := errorString_of_trod tyErr nameRow Tryd.underlying60 Tryd.underlying78 rfl rfl Tryd.underlying9 cellsES cellsStr hd ok0
    obtain ⟨ad, hl, hS, hsub⟩ := sents_of r q (fun x hx => hn x (by simp [hx])) hr (fun b off hm => hrows b off (by simp [hm]))
    have hs' : s.data.toList = text := hs
    have hst : s = ⟨text.toArray⟩ := by rw [← hs']
    subst hst
    refine ⟨a :: ad, by simp [hl], fun i x b hx hb => ?_, ?_⟩
    · cases i with
      | zero =>
        simp only [List.getElem?_cons_zero, Option.some.injEq] at hx hb
        subst hx; subst hb
        exact ⟨⟨by simpa using World.var?_cell hg hv 0, hc, (hrows a.block a.off (by simp [MemPlace.row])).1⟩, World.cell?_spot hc⟩
      | succ i => exact hS i x b (by simpa using hx) (by simpa using hb)
    · have e : MemPlace.row a 1 = [MemPlace.cell a.block a.off] := by simp [MemPlace.row]
      rw [e, List.append_assoc]
      exact (List.Sublist.cons_cons _ hsub).trans (List.sublist_append_right _ _)

/-- All the errors that a list names, at places that differ. -/
structure Errs (L : List (String × Nat × List UInt8)) (A : Nat → Addr) (w : World) : Prop where
  all : ∀ i x, L[i]? = some x → Sent w x.2.1 (A i) x.2.2
  ne : ∀ i j, i < L.length → j < L.length → i ≠ j → A i ≠ A j

theorem errs_of_laid {w : World} {L : List (String × Nat × List UInt8)} (hn : L.all named = true) (h : laidMet Tryd.prog (L.map fun x => (x.1, sent x.2.2)) w) : ∃ A : Nat → Addr, Errs L A w := by
  obtain ⟨ps, hv, hnd, hrows⟩ := h
  obtain ⟨ad, hl, hS, hsub⟩ := sents_of L ps (fun x hx => List.all_eq_true.1 hn x hx) hv hrows
  refine ⟨fun i => ad.getD i default, fun i x hx => ?_, fun i j hi hj hij he => ?_⟩
  · have hi : i < ad.length := by rw [hl]; exact (List.getElem?_eq_some_iff.1 hx).1
    have := (hS i x ad[i] hx (List.getElem?_eq_getElem hi)).1
    simpa [List.getD, List.getElem?_eq_getElem hi] using this
  · have hi' : i < ad.length := by omega
    have hj' : j < ad.length := by omega
    have he' : ad[i] = ad[j] := by simpa [List.getD, List.getElem?_eq_getElem hi', List.getElem?_eq_getElem hj'] using he
    have nd := hsub.nodup hnd
    have := (List.getElem_inj (i := i) (j := j) (h₀ := by simpa using hi') (h₁ := by simpa using hj') nd).1 (by simp [he'])
    exact hij this

theorem Sent.below {w w' : World} {g : Nat} {a : Addr} {text : List UInt8} (h : Sent w g a text) (hb : Below w.heap.size w w') : Sent w' g a text := by
  have lt : ∀ {p : Addr} {v : Value}, w.cell? p = some v → p.block < w.heap.size := by
    intro p v h
    rcases Nat.lt_or_ge p.block w.heap.size with h1 | h1
    · exact h1
    · simp [World.cell?, Array.getElem?_eq_none h1] at h
  obtain ⟨c, t, hct⟩ := h.blk
  exact ⟨(hb.cell (lt h.glob)).trans h.glob, (hb.cell (lt h.cell)).trans h.cell, c, t, (hb.block _ (lt h.cell)).trans hct⟩

theorem Errs.below {L : List (String × Nat × List UInt8)} {A : Nat → Addr} {w w' : World} (h : Errs L A w) (hb : Below w.heap.size w w') : Errs L A w' :=
  ⟨fun i x hx => (h.all i x hx).below hb, h.ne⟩
end Go.Proofs.YtjebnceajpkhmaaDoor
