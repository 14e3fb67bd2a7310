/- What the law's cycles answers: a range over the iterator that collects. -/
import Derived.Test.YtjebnceajpkhmaaDoorRng
import Derived.RangeFuncBox
import Derived.Deep.AppendLies
import Derived.Maps.AppendAt
namespace Go.Proofs.YtjebnceajpkhmaaDoor
open Go.RowKit Go.Shelf
attribute [local go_sem] Oper.semAt_some

theorem wpListIn_append_lies {F : Fence} {n : Nat} {P : Program} (w : World) {ops : Array Oper} {rest : List Oper} {o : Oper} {a : Act} {Q : Exit → Act → World → Prop}
    (hg : o.guard = none) (s x : Operand) (t : TypeId) (hop : o.op = Op.call { callee := Callee.builtin Builtin.append, args := #[s, x], argTypes := #[t, t] })
    (base : Nat) (e : TypeId) (i : TypeInfo) (z : Value) (size bytes : Nat) (h1 : P.underlying t = some (.slice e)) (h2 : P.info? e = some i) (h3 : i.zero = some z) (h4 : i.size = size) (h5 : i.bytes = bytes) (h6 : z.cells.size = size) (h7 : 0 < size)
    (v : Value) (k : Nat) (xs : List Value) (hs : a.eval s = v) (hown : w.ownsRow base e size v k xs) (ad : Addr) (m c : Nat) (news : List Value) (hx : a.eval x = .slice (some ad) m c) (hn : news.length = m * size)
    (hc : ∀ j u, news[j]? = some u → w.cell? (ad.add j) = some u) (h1c : ∀ u ∈ news, u.oneCell' = true) (hm : 0 < m) (b1 : k + m ≤ maxLen) (b2 : (k + m) * bytes ≤ 140737488355328) (b3 : base ≤ w.heap.size)
    (hK : ∀ g cap w', w'.ownsRow base e size (.slice (some ⟨g, 0, none⟩) (k + m) cap) (k + m) (xs ++ news) → w.grownBy w' v.ownBlock → (v.ownBlock = some g ∨ g = w.heap.size) → g < w'.heap.size → wpListIn F n P ops Q rest (a.put o.dst (.slice (some ⟨g, 0, none⟩) (k + m) cap)) w') :
    wpListIn F n P ops Q (o :: rest) a w := by
  refine wpListIn_plain hg fun K hK' => ?_
  obtain ⟨g, cap, w', hrun, r1, r2, r3, r4⟩ := run_append_lies (P := P) w t o.type base e i z size bytes h1 h2 h3 h4 h5 h6 h7 v k xs hown ad m c news hn hc h1c hm b1 b2 b3 _ rfl
  unfold Oper.wpIn
  refine ⟨?_, ?_⟩
  · simp [Oper.about, hop, resolve, Target.leads, Sem.run_pure]
  · rw [Oper.semAt_plain F _ _ (by rw [hop]; intro c hc'; cases hc')]
    simp [execOp, hop, resolve, invoke, builtin, hs, hx, hrun, Result.andThen]
    exact hK' _ _ (hK g cap w' r1 r2 r3 r4)

/-- A row lies elsewhere than block l, which is none. -/
theorem NotCells.ne {l : Nat} {W : World} (h : NotCells l W) {B : Nat} {e : TypeId} {v : Value} {k : Nat} {xs : List Value} (hr : W.ownsRow B e 1 v k xs) : ∀ b, v.ownBlock = some b → b ≠ l := by
  rintro b hb rfl
  rcases hr.2 with ⟨rfl, -⟩ | ⟨g, cap, cur, rfl, -, hg, -⟩
  · cases hb
  · simp only [Value.ownBlock, Option.some.injEq] at hb
    subst hb
    exact h _ _ _ hg
theorem own_same {l B : Nat} {e : TypeId} {W W' : World} {v : Value} {k : Nat} {xs : List Value} (h : W.ownsRow B e 1 v k xs) (hn : NotCells l W) (hs : ∀ b, b < W.heap.size → b ≠ l → W'.heap[b]? = W.heap[b]?) : W'.ownsRow B e 1 v k xs := by
  have hne := hn.ne h
  obtain ⟨h1, h2 | ⟨g, cap, cur, rfl, a, b, c⟩⟩ := h
  · exact ⟨h1, .inl h2⟩
  · exact ⟨h1, .inr ⟨g, cap, cur, rfl, a, (hs g (Array.getElem?_eq_some_iff.1 b).1 (hne g rfl)).trans b, c⟩⟩
theorem LL.same {l lo hi : Nat} {W W' : World} {v : Value} {m : Nat} {ln : Nat → Nat} {g : Nat → Nat → Int} (h : LL lo hi W v m ln g) (hn : NotCells l W) (hs : ∀ b, b < W.heap.size → b ≠ l → W'.heap[b]? = W.heap[b]?) : LL lo hi W' v m ln g := by
  obtain ⟨xs, h1, h2, h3, h4⟩ := h
  exact ⟨xs, own_same h1 hn hs, h2, (fun c hc => by obtain ⟨vc, a, b, d⟩ := h3 c hc; exact ⟨vc, a, own_same b hn hs, d⟩), h4⟩
/-- A store into a block of another kind. -/
theorem own_setk {w : World} {B : Nat} {e T : TypeId} {v : Value} {k : Nat} {xs : List Value} (h : w.ownsRow B e 1 v k xs) {p : Addr} (hk : ∃ c, w.heap[p.block]? = some (.cells c T (0, 0))) (he : e ≠ T) (u : Value) : (w.setCell p u).ownsRow B e 1 v k xs := by
  refine ownsRow_setCell_other h (fun hb => ?_) u
  obtain ⟨c, hc⟩ := hk
  rcases h.2 with ⟨rfl, -⟩ | ⟨g, cap, cur, rfl, -, hg, -⟩
  · cases hb
  · simp only [Value.ownBlock, Option.some.injEq] at hb
    subst hb
    rw [hc] at hg
    simp at hg
    exact he hg.2.symm
theorem LL.setk {lo hi : Nat} {T : TypeId} {w : World} {v : Value} {m : Nat} {ln : Nat → Nat} {g : Nat → Nat → Int} (h : LL lo hi w v m ln g) {p : Addr} (hp : ∃ c, w.heap[p.block]? = some (.cells c T (0, 0))) (h3 : 3 ≠ T) (h22 : 22 ≠ T) (u : Value) : LL lo hi (w.setCell p u) v m ln g := by
  obtain ⟨xs, h1, h2, h4, h5⟩ := h
  exact ⟨xs, own_setk h1 hp h22 u, h2, (fun c hc => by obtain ⟨vc, a, b, d⟩ := h4 c hc; exact ⟨vc, a, own_setk b hp h3 u, d⟩), h5⟩
/-- The one row that was written lies ahead of lo or behind hi. -/
theorem LL.grownx {lo hi : Nat} {w w' : World} {v : Value} {m : Nat} {ln : Nat → Nat} {g : Nat → Nat → Int} {row : Option Nat} (h : LL lo hi w v m ln g) (hg : w.grownBy w' row) (hr : ∀ b, row = some b → b < lo ∨ hi ≤ b) : LL lo hi w' v m ln g := by
  obtain ⟨xs, h1, h2, h3, h4⟩ := h
  have ne : ∀ {u : Value} {e : TypeId} {k : Nat} {ys : List Value}, w.ownsRow lo e 1 u k ys → (∀ b, u.ownBlock = some b → b < hi) → u.ownBlock = none ∨ u.ownBlock ≠ row := by
    intro u e k ys ho hu
    cases hb : u.ownBlock with
    | none => exact .inl rfl
    | some b => exact .inr fun e => by have := hu b hb; have := (World.ownsRow.lt ho b hb).1; rcases hr b e.symm with h | h <;> omega
  exact ⟨xs, h1.kept hg (ne h1 h2), h2, (fun c hc => by obtain ⟨vc, a, b, d⟩ := h3 c hc; exact ⟨vc, a, World.ownsRow.kept b hg (ne b d), d⟩), h4⟩

/-- What the collecting loop keeps: s: the heap's size when the function began. -/
structure Cj (s hi l k m : Nat) (ln : Nat → Nat) (g : Nat → Nat → Int) (p v0 : Value) (w W : World) : Prop where
  p : Boxed W s 22 p
  r1 : Boxed W (s + 1) 35 (.slice none 0 0)
  r2 : Boxed W (s + 2) 4 (.bool false)
  out : ∃ a c, Boxed W (s + 4) 35 (.slice a k c) ∧ LL (s + 3) W.heap.size W (.slice a k c) k ln g ∧ ∀ b, (Value.slice a k c).ownBlock = some b → b = s + 3 ∨ hi ≤ b
  src : LL (s + 6) hi W v0 m ln g
  size : hi ≤ W.heap.size
  lo : s + 6 ≤ hi
  nc : NotCells l W
  bel : Below s w W
  ll : hi ≤ l

theorem box_sim {l b : Nat} {t : TypeId} {v : Value} {W W' : World} (h : Boxed W b t v) (hs : Sim l W W') (hne : b ≠ l) : Boxed W' b t v := (hs.block b h.lt hne).trans h

theorem Cj.sim {s hi l k m : Nat} {ln : Nat → Nat} {g : Nat → Nat → Int} {p v0 : Value} {w W W' : World} (h : Cj s hi l k m ln g p v0 w W) (hs : Sim l W W') : Cj s hi l k m ln g p v0 w W' := by
  have h1 := h.lo
  have h2 := h.ll
  obtain ⟨a, c, o1, o2, o3⟩ := h.out
  refine ⟨box_sim h.p hs (by omega), box_sim h.r1 hs (by omega), box_sim h.r2 hs (by omega), ⟨a, c, box_sim o1 hs (by omega), (o2.same h.nc hs.block).up (Nat.le_refl _) hs.size, o3⟩, h.src.same h.nc hs.block, Nat.le_trans h.size hs.size, h.lo, hs.keep h.nc, ?_, h.ll⟩
  refine h.bel.trans ⟨hs.os, hs.tape, hs.output, hs.size, fun b hb => hs.block b ?_ (by omega)⟩
  have := h.p.lt
  omega

/-- One list more. -/
theorem Cj.step {s hi l k m : Nat} {ln : Nat → Nat} {g : Nat → Nat → Int} {p v0 : Value} {w W w3 : World} {a : Option Addr} {c gn cap : Nat} {x : Value} {xs : List Value} (h : Cj s hi l k m ln g p v0 w W) {H : Nat} (hH : hi ≤ H) (hll : l < W.heap.size) (hx : Told H W x (ln k) (g k)) (h4 : Apart xs) (h5 : ∀ (c : Nat) (vc : Value), xs[c]? = some vc → ∀ b, vc.ownBlock = some b → b < H)
    (ho : Boxed W (s + 4) 35 (.slice a k c)) (hL : (W.alloc (.cells #[x] 22)).ownsRow (s + 3) 22 1 (.slice a k c) k xs) (h3 : ∀ c, c < k → ∃ vc, xs[c]? = some vc ∧ Told (s + 3) (W.alloc (.cells #[x] 22)) vc (ln c) (g c)) (hb : ∀ b, (Value.slice a k c).ownBlock = some b → b = s + 3 ∨ hi ≤ b)
    (hown : w3.ownsRow (s + 3) 22 1 (.slice (some ⟨gn, 0, none⟩) (k + 1) cap) (k + 1) (xs ++ [x])) (hg : (W.alloc (.cells #[x] 22)).grownBy w3 (Value.slice a k c).ownBlock) (hgn : (Value.slice a k c).ownBlock = some gn ∨ gn = (W.alloc (.cells #[x] 22)).heap.size) :
    Boxed w3 (s + 4) 35 (.slice a k c) ∧ Boxed w3 s 22 p ∧ Cj s hi l (k + 1) m ln g p v0 w (w3.setCell ⟨s + 4, 0, none⟩ (.slice (some ⟨gn, 0, none⟩) (k + 1) cap)) ∧
      (∀ b, b < W.heap.size → NotCells b W → (w3.setCell ⟨s + 4, 0, none⟩ (.slice (some ⟨gn, 0, none⟩) (k + 1) cap)).heap[b]? = W.heap[b]?) := by
  have hlo := h.lo
  have hh := h.size
  have hl2 := h.ll
  have hsz := hg.size
  have hW2 : ∀ b, b < W.heap.size → (W.alloc (.cells #[x] 22)).heap[b]? = W.heap[b]? := fun b hb => Below.heap_alloc _ _ b hb
  have hrow : ∀ b, b < s + 6 → b ≠ s + 3 → some b ≠ (Value.slice a k c).ownBlock := fun b h1 h2 e => by rcases hb b e.symm with h | h <;> omega
  have old : ∀ b, b < s + 6 → b ≠ s + 3 → w3.heap[b]? = W.heap[b]? := fun b h1 h2 => (hg.block b (by simp; omega) (hrow b h1 h2)).trans (hW2 b (by omega))
  have b4 : Boxed w3 (s + 4) 35 (.slice a k c) := (old _ (by omega) (by omega)).trans ho
  have b0 : Boxed w3 s 22 p := (old _ (by omega) (by omega)).trans h.p
  have oth : ∀ b, b ≠ s + 4 → (w3.setCell ⟨s + 4, 0, none⟩ (.slice (some ⟨gn, 0, none⟩) (k + 1) cap)).heap[b]? = w3.heap[b]? := fun b hb => heap_setCell_other _ _ _ _ hb
  have far : ∀ b, b < W.heap.size → NotCells b W → (w3.setCell ⟨s + 4, 0, none⟩ (.slice (some ⟨gn, 0, none⟩) (k + 1) cap)).heap[b]? = W.heap[b]? := fun b hb1 hn => by
    have e1 : b ≠ s + 4 := fun e => by subst e; exact hn _ _ _ ho
    have e2 : some b ≠ (Value.slice a k c).ownBlock := fun e => by
      have hn2 : NotCells b (W.alloc (.cells #[x] 22)) := fun cs t fr he => hn cs t fr ((hW2 b hb1).symm.trans he)
      exact hn2.ne hL b e.symm rfl
    exact (oth b e1).trans ((hg.block b (by simp; omega) e2).trans (hW2 b hb1))
  have ho2 : Told (s + 3) (W.alloc (.cells #[x] 22)) x (ln k) (g k) := own_mono (World.ownsRow.alloc hx _) (by omega)
  refine ⟨b4, b0, ⟨(oth _ (by omega)).trans b0, (oth _ (by omega)).trans ((old _ (by omega) (by omega)).trans h.r1), (oth _ (by omega)).trans ((old _ (by omega) (by omega)).trans h.r2), ⟨some ⟨gn, 0, none⟩, cap, ?_, ?_, ?_⟩, ?_, ?_, h.lo, ?_, ?_, h.ll⟩, far⟩
  · have := heap_setCell_same w3 (s + 4) 0 _ 35 (.slice (some ⟨gn, 0, none⟩) (k + 1) cap) b4
    unfold Boxed
    rw [this]
    rfl
  · refine ((LL.push hL h3 ho2 h4 h5 (fun b hb => (hx.lt b hb).1) hown hg (Nat.le_refl _)).eqs (fun d hd => ?_) (fun d hd => ?_)).setk (p := ⟨s + 4, 0, none⟩) ⟨_, b4⟩ (by decide) (by decide) _ |>.up (Nat.le_refl _) (by simp)
    · split
      · next e => rw [e]
      · rfl
    · split
      · next e => rw [e]
      · rfl
  · intro b e
    simp only [Value.ownBlock, Option.some.injEq] at e
    subst e
    rcases hgn with e | e
    · exact hb _ e
    · refine .inr ?_
      rw [e]; simp; omega
  · refine ((h.src.alloc _).grownx hg fun b e => ?_).setk (p := ⟨s + 4, 0, none⟩) ⟨_, b4⟩ (by decide) (by decide) _
    rcases hb b e with h | h
    · exact .inl (by omega)
    · exact .inr h
  · simp at hsz ⊢; omega
  · intro cs t fr he
    exact h.nc cs t fr ((far l hll h.nc).symm.trans he)
  · refine ((h.bel.alloc (by omega) _).grown hg (by simp; omega) fun b e => ?_).setCell (p := ⟨s + 4, 0, none⟩) (by show s ≤ s + 4; omega) _
    rcases hb b e with h | h <;> omega

end Go.Proofs.YtjebnceajpkhmaaDoor
