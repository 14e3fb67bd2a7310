/- What PermCycles' last loop keeps. -/
import Derived.Test.YtjebnceajpkhmaaDoorPcb
namespace Go.Proofs.YtjebnceajpkhmaaDoor
open Go.RowKit Go.Shelf

/-- s, s + 1: stop and the answer; b6: the list; b15: the count q; three lists of lists. -/
structure It (s b6 b15 l lo1 hi1 lo2 hi2 lo3 hi3 m : Nat) (st : Int) (vL vM vN : Value) (ln : Nat → Nat) (g : Nat → Nat → Int) (w : World) (q : Nat) (W : World) : Prop where
  y3 : Boxed W s 3 (.int .i64 st)
  y4 : Boxed W (s + 1) 4 (.bool false)
  y6 : Boxed W b6 35 vL
  y15 : Boxed W b15 3 (.int .i64 q)
  L : LL lo1 hi1 W vL m ln g
  M : LL lo2 hi2 W vM m ln g
  N : LL lo3 hi3 W vN m ln g
  nc : NotCells l W
  size : hi3 ≤ W.heap.size
  bel : Below s w W
  n1 : s + 1 < lo1
  n2 : lo1 ≤ hi1
  n3 : hi1 ≤ b6
  n4 : b6 < lo2
  n5 : lo2 ≤ hi2
  n6 : hi2 ≤ b15
  n7 : b15 < lo3
  n8 : lo3 ≤ hi3
  n9 : hi3 ≤ l

section
variable {s b6 b15 l lo1 hi1 lo2 hi2 lo3 hi3 m q : Nat} {st : Int} {vL vM vN : Value} {ln : Nat → Nat} {g : Nat → Nat → Int} {w W W' : World}
theorem It.sim (h : It s b6 b15 l lo1 hi1 lo2 hi2 lo3 hi3 m st vL vM vN ln g w q W) (hs : Sim l W W') : It s b6 b15 l lo1 hi1 lo2 hi2 lo3 hi3 m st vL vM vN ln g w q W' := by
  obtain ⟨y3, y4, y6, y15, L, M, N, nc, size, bel, n1, n2, n3, n4, n5, n6, n7, n8, n9⟩ := h
  refine ⟨box_sim y3 hs (by omega), box_sim y4 hs (by omega), box_sim y6 hs (by omega), box_sim y15 hs (by omega), L.same nc hs.block, M.same nc hs.block, N.same nc hs.block, hs.keep nc, Nat.le_trans size hs.size, ?_, n1, n2, n3, n4, n5, n6, n7, n8, n9⟩
  refine bel.trans ⟨hs.os, hs.tape, hs.output, hs.size, fun b hb => hs.block b ?_ (by omega)⟩
  have := y3.lt
  omega
theorem It.below (h : It s b6 b15 l lo1 hi1 lo2 hi2 lo3 hi3 m st vL vM vN ln g w q W) (hb : Below W.heap.size W W') (hl : l < W.heap.size) : It s b6 b15 l lo1 hi1 lo2 hi2 lo3 hi3 m st vL vM vN ln g w q W' := by
  obtain ⟨y3, y4, y6, y15, L, M, N, nc, size, bel, n1, n2, n3, n4, n5, n6, n7, n8, n9⟩ := h
  exact ⟨box_below y3 hb, box_below y4 hb, box_below y6 hb, box_below y15 hb, L.below hb, M.below hb, N.below hb, not_cells_eq nc (hb.block l hl), Nat.le_trans size hb.size, bel.trans (hb.mono (by have := y3.lt; omega)), n1, n2, n3, n4, n5, n6, n7, n8, n9⟩
theorem set_grown (W : World) (p : Addr) (v : Value) : W.grownBy (W.setCell p v) (some p.block) :=
  ⟨rfl, rfl, rfl, by simp, fun b _ hne => heap_setCell_other _ _ _ _ (fun e => hne (by rw [e]))⟩
theorem It.next (h : It s b6 b15 l lo1 hi1 lo2 hi2 lo3 hi3 m st vL vM vN ln g w q W) : It s b6 b15 l lo1 hi1 lo2 hi2 lo3 hi3 m st vL vM vN ln g w (q + 1) (W.setCell ⟨b15, 0, none⟩ (.int .i64 ((q + 1 : Nat) : Int))) := by
  obtain ⟨y3, y4, y6, y15, L, M, N, nc, size, bel, n1, n2, n3, n4, n5, n6, n7, n8, n9⟩ := h
  have oth : ∀ b, b ≠ b15 → (W.setCell ⟨b15, 0, none⟩ (.int .i64 ((q + 1 : Nat) : Int))).heap[b]? = W.heap[b]? := fun b hb => heap_setCell_other _ _ _ _ hb
  have hg := set_grown W ⟨b15, 0, none⟩ (.int .i64 ((q + 1 : Nat) : Int))
  refine ⟨(oth _ (by omega)).trans y3, (oth _ (by omega)).trans y4, (oth _ (by omega)).trans y6, y15.set _, L.grownx hg (fun b hb => by cases hb; exact .inr (by show hi1 ≤ b15; omega)), M.grownx hg (fun b hb => by cases hb; exact .inr (by show hi2 ≤ b15; omega)),
    N.grownx hg (fun b hb => by cases hb; exact .inl n7), not_cells_eq nc (oth _ (by omega)), by simpa using size, bel.setCell (p := ⟨b15, 0, none⟩) (by show s ≤ b15; omega) _, n1, n2, n3, n4, n5, n6, n7, n8, n9⟩
end
/-- An append whose answer is known, guarded or not. -/
theorem wpList_append_run {P : Program} {ops : Array Oper} {Q : Exit → Act → World → Prop} {a : Act} {w w' : World} {rest : List Oper} {o : Oper} (s x : Operand) (t : TypeId) (ho : o.op = .call { callee := .builtin .append, args := #[s, x], argTypes := #[t, t] })
    (hw : Region.wanted o (yielded ops a.tmps) = true) {v y u : Value} (hs : a.eval s = v) (hx : a.eval x = y) (hr : (Builtin.append_ #[t, t] o.type #[v, y]).run P w = .ok u w') (h : wpList P ops Q rest (a.put o.dst u) w') : wpList P ops Q (o :: rest) a w := by
  unfold wpList
  rw [if_pos hw]
  refine .inl ?_
  unfold Oper.wp execOp
  simp only [ho, resolve, invoke, builtin, Sem.run_bind, Sem.run_pure, Result.andThen_ok, List.map_toArray, List.map_cons, List.map_nil, hs, hx, hr]
  exact h
end Go.Proofs.YtjebnceajpkhmaaDoor
