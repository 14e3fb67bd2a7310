/- What the law's cycles answers. -/
import Derived.Test.YtjebnceajpkhmaaDoorCol
namespace Go.Proofs.YtjebnceajpkhmaaDoor
open Go.RowKit Go.Shelf
attribute [local go_sem] Oper.semAt_some

/-- The world with the function's own variables. -/
def W5 (w : World) (p : Value) : World := ((((w.alloc (.cells #[p] 22)).alloc (.cells #[.slice none 0 0] 35)).alloc (.cells #[.bool false] 4)).alloc (.cells #[] 22)).alloc (.cells #[.slice (some ⟨w.heap.size + 1 + 1 + 1, 0, none⟩) 0 0] 35)
theorem W5_size (w : World) (p : Value) : (W5 w p).heap.size = w.heap.size + 5 := by simp [W5]
theorem W5_below (w : World) (p : Value) : Below w.heap.size w (W5 w p) :=
  (((((Below.refl _ _).alloc (Nat.le_refl _) _).alloc (by simp) _).alloc (by simp; omega) _).alloc (by simp; omega) _).alloc (by simp; omega) _
theorem al_new {W : World} {o : Obj} {b : Nat} (h : b = W.heap.size) : (W.alloc o).heap[b]? = some o := by subst h; exact World.alloc_heap_new W o
theorem al_old {W : World} {o : Obj} {b : Nat} {r : Option Obj} (h : W.heap[b]? = r) (hb : b < W.heap.size) : (W.alloc o).heap[b]? = r := (Below.heap_alloc W o b hb).trans h
theorem W5_boxes (w : World) (p : Value) : Boxed (W5 w p) w.heap.size 22 p ∧ Boxed (W5 w p) (w.heap.size + 1) 35 (.slice none 0 0) ∧ Boxed (W5 w p) (w.heap.size + 2) 4 (.bool false) ∧
    Boxed (W5 w p) (w.heap.size + 4) 35 (.slice (some ⟨w.heap.size + 3, 0, none⟩) 0 0) ∧ (W5 w p).heap[w.heap.size + 3]? = some (.cells #[] 22 (0, 0)) := by
  unfold Boxed W5
  refine ⟨?_, ?_, ?_, ?_, ?_⟩
  · exact al_old (al_old (al_old (al_old (al_new rfl) (by simp)) (by simp <;> omega)) (by simp <;> omega)) (by simp <;> omega)
  · exact al_old (al_old (al_old (al_new (by simp)) (by simp)) (by simp <;> omega)) (by simp <;> omega)
  · exact al_old (al_old (al_new (by simp)) (by simp)) (by simp <;> omega)
  · exact al_new (by simp)
  · exact al_old (al_new (by simp)) (by simp)

theorem eqin (d : Nat) (fn : Fn) (a c : Array Value) (w : World) : (Op.equalIn (d + 1) 42 (.func fn a c) .nilFunc).run Tryd.prog w = .ok false w := by
  simp [Op.equalIn, run_underlying Tryd.underlying42]
theorem func_ne_nil (fn : Fn) (a c : Array Value) (w : World) : (binOp .eql 42 (.func fn a c) .nilFunc).run Tryd.prog w = .ok (.bool false) w := by
  simp only [binOp]
  simp [Op.equal, Op.maxDepth, eqin 9999]

set_option maxRecDepth 100000 in
set_option maxHeartbeats 4000000 in
theorem collect_in (n c m : Nat) (ao : Option Addr) (w : World) (ln : Nat → Nat) (g : Nat → Nat → Int) (hn : m ≤ n) (hm : m ≤ 1048576) (hpos : ∀ k, k < m → 1 ≤ ln k ∧ ln k ≤ 1048576)
    (hC : Calls Tryd.prog 16 #[.slice ao n c] (W5 w (.slice ao n c)) fun e w' => e = .returned (.func (.func 30) #[] #[.pointer (some ⟨w.heap.size + 5, 0, none⟩)]) ∧ Below (w.heap.size + 5) (W5 w (.slice ao n c)) w' ∧ w.heap.size + 5 < w'.heap.size ∧
      ∃ a0 c0, w'.cell? ⟨w.heap.size + 5, 0, none⟩ = some (.slice a0 m c0) ∧ LL (w.heap.size + 6) w'.heap.size w' (.slice a0 m c0) m ln g) :
    Calls Tryd.prog 13 #[.slice ao n c] w fun e w' => ∃ v, e = .returned (.tuple #[v, .bool true]) ∧ Below w.heap.size w w' ∧ LL w.heap.size w'.heap.size w' v m ln g := by
  refine (callsIn_wide (n := 5)).1 ?_
  obtain ⟨i1, hi1, hy0, hy1, hy2⟩ := info_parts info22i
  have HC := Lib.hid hC
  have HP := Lib.hid hpos
  clear hC hpos
  refine callsIn_of_wp_marks Tryd.func13 rfl trivial ?_ rfl
  simp only [Tryd.ntmps13, List.size_toArray, List.length_cons, List.length_nil, Nat.reduceAdd, Nat.reduceSub, Array.replicate_succ, Array.replicate_zero, List.push_toArray, List.append_toArray, List.nil_append, List.cons_append]
  gi_wp2_with (refine ⟨trivial, ?_⟩; gi_at_call 16; refine (callsIn_wide.2 HC.out).mono ?_)
  rintro e w1 ⟨rfl, hb1, hlt1, a0, c0, hcell, hLL⟩
  obtain ⟨x0, x1, x2, x4, x3⟩ := W5_boxes w (.slice ao n c)
  have hsz5 := W5_size w (.slice ao n c)
  have y0 : Boxed w1 w.heap.size 22 (.slice ao n c) := (hb1.block _ (by omega)).trans x0
  have y1 : Boxed w1 (w.heap.size + 1) 35 (.slice none 0 0) := (hb1.block _ (by omega)).trans x1
  have y2 : Boxed w1 (w.heap.size + 2) 4 (.bool false) := (hb1.block _ (by omega)).trans x2
  have y4 : Boxed w1 (w.heap.size + 4) 35 (.slice (some ⟨w.heap.size + 3, 0, none⟩) 0 0) := (hb1.block _ (by omega)).trans x4
  have y3 : w1.heap[w.heap.size + 3]? = some (.cells #[] 22 (0, 0)) := (hb1.block _ (by omega)).trans x3
  have hbel : Below w.heap.size w w1 := (W5_below w _).trans (hb1.mono (by omega))
  have hJ : Cj w.heap.size w1.heap.size (w1.heap.size + 1) 0 m ln g (.slice ao n c) (.slice a0 m c0) w w1 :=
    ⟨y0, y1, y2, ⟨_, _, y4, ⟨[], ⟨rfl, .inr ⟨w.heap.size + 3, 0, #[], rfl, Nat.le_refl _, y3, Nat.le_refl _, by unfold maxLen; omega, rfl, rfl⟩⟩, fun b hb => (by cases hb; show w.heap.size + 3 < _; omega), fun c hc => (by omega), apart_nil⟩, fun b hb => (by cases hb; exact .inl rfl)⟩,
      hLL, Nat.le_refl _, by omega, fun cs t fr he => (by rw [Array.getElem?_eq_none (by omega)] at he; cases he), hbel, by omega⟩
  have HJ := Lib.hid hJ
  have HCell := Lib.hid hcell
  clear hb1 x0 x1 x2 x3 x4 y0 y1 y2 y3 y4 hbel hJ hcell hLL hsz5
  have hq := func_ne_nil (.func 30) #[] #[.pointer (some ⟨w.heap.size + 5, 0, none⟩)]
  gi_wp2
  refine range_in Fence.wide 5 trivial rfl (by omega) (w.heap.size + 5) m a0 c0 ln g hm HP.out ?hps ?hg HCell.out (fun k W => Cj w.heap.size w1.heap.size (w1.heap.size + 1) k m ln g (.slice ao n c) (.slice a0 m c0) w W) (fun _ _ _ => False)
    (fun k W W' h hs => h.sim hs) (fun _ _ _ _ h _ => h) (fun k W h => ?rows) HJ.out ?A1 ?assign ?body ?done ?stop
  case hps => rfl
  case hg => rfl
  case rows =>
    obtain ⟨a, c, e, hr, -⟩ := h.src.rows
    cases e
    exact hr
  case stop => exact fun c k W _ h _ => h.elim
  case assign =>
    intro v W K hK
    gi_wp2
    exact hK
  case body =>
    intro k v W hk hC ⟨W0, hC0, hle0, hsame, hT⟩ hlt ⟨r, hr⟩ ⟨r', hr'⟩
    obtain ⟨av, cv, rfl, -⟩ := hT.row
    obtain ⟨a, c', o1', o2', o3⟩ := hC0.out
    have hle' := hC0.size
    have hlo' := hC0.lo
    have o1 : Boxed W (w.heap.size + 4) 35 (.slice a k c') := (hsame _ o1'.lt (by omega)).trans o1'
    have o2 := o2'.same hC0.nc hsame
    obtain ⟨xs, hL, -, h3, h4⟩ := o2.alloc (.cells #[.slice av (ln k) cv] 22)
    have h5 : ∀ (c : Nat) (vc : Value), xs[c]? = some vc → ∀ b, vc.ownBlock = some b → b < W0.heap.size := fun c vc hc => by
      have hlt : c < k := by
        have := (List.getElem?_eq_some_iff.1 hc).1
        have := hL.1
        omega
      obtain ⟨vc', p, -, r⟩ := h3 c hlt
      rw [hc] at p
      cases p
      exact r
    have h3' : ∀ c, c < k → ∃ vc, xs[c]? = some vc ∧ Told (w.heap.size + 3) (W.alloc (.cells #[.slice av (ln k) cv] 22)) vc (ln c) (g c) := fun c hc => by obtain ⟨vc, p, q, -⟩ := h3 c hc; exact ⟨vc, p, q⟩
    have c1 := o1.cell
    have hle := hC.size
    have hlo := hC.lo
    have n1 : NotCells (w1.heap.size + 1) W := fun cs t fr he => by rw [hr] at he; cases he
    have n2 : NotCells w1.heap.size W := fun cs t fr he => by rw [hr'] at he; cases he
    have one := slice_cell hT
    gi_wp2_with (gi_at_builtin; go_loud (refine wpListIn_append_lies _ rfl (.tmp 15) (.tmp 17) 35 rfl (w.heap.size + 3) 22 i1 (.slice none 0 0) 1 24 Tryd.underlying35 hi1 hy0 hy1 hy2 rfl (by decide) (.slice a k c') k xs rfl hL ⟨W.heap.size, 0, none⟩ 1 1 [.slice av (ln k) cv] rfl rfl (cell_one_new W _ _) one (by decide) (by unfold maxLen; omega) (by omega) (by simp; omega) ?_))
    intro gn cap w3 hown hg hgn hgl
    obtain ⟨b4, b0, hC', hfar⟩ := hC.step hle' (by omega) hT h4 h5 o1 hL h3' o3 hown hg (by simpa using hgn)
    have HC' := Lib.hid hC'
    have HF' := Lib.hid (And.intro (hfar _ (by omega) n1) (hfar _ (by omega) n2))
    have d1 := b4.cell
    have d2 := b4.frozen
    have d0 := b0.cell
    have e0 := hC'.p.cell
    have e4 := hC'.out
    clear hown hg hgn hgl hfar hC' hL h3 h3' h4 h5 o1' o2 o2' o3 hr hr' n1 n2 e4 hsame hC0
    gi_wp2
    exact ⟨HF'.out, HC'.out⟩
  case done =>
    intro W hC hD
    obtain ⟨a, c', o1, o2, o3⟩ := hC.out
    have d4 := o1.cell
    have d1 := hC.r1.cell
    have d2 := hC.r2.cell
    have e1 := hC.r1.frozen
    have e2 := hC.r2.frozen
    have hlo := hC.lo
    have hsz := hC.size
    have hc1 : (W.setCell ⟨w.heap.size + 1, 0, none⟩ (.slice a m c')).cell? ⟨w.heap.size + 2, 0, none⟩ = some (.bool false) := by
      rw [World.cell?_setCell_other _ _ _ _ (fun he => by have := (Addr.mk.inj he).1; omega)]; exact d2
    gi_wp2
    obtain ⟨Z, hZ⟩ : ∃ Z, (W.setCell ⟨w.heap.size + 1, 0, none⟩ (.slice a m c')).setCell ⟨w.heap.size + 2, 0, none⟩ (.bool true) = Z := ⟨_, rfl⟩
    have hZ' := hZ
    rw [hZ]
    have hDZ : Z.heap[w1.heap.size]? = some (.deferred (some [])) := by
      rw [← hZ, heap_setCell_other _ _ _ _ (by show w1.heap.size ≠ w.heap.size + 2; omega), heap_setCell_other _ _ _ _ (by show w1.heap.size ≠ w.heap.size + 1; omega)]; exact hD
    have hz1 : Z.cell? ⟨w.heap.size + 1, 0, none⟩ = some (.slice a m c') := by
      rw [← hZ, World.cell?_setCell_other _ _ _ _ (fun he => by have := (Addr.mk.inj he).1; omega)]; exact World.cell?_setCell_same _ _ _ d1
    have hz2 : Z.cell? ⟨w.heap.size + 2, 0, none⟩ = some (.bool true) := by rw [← hZ]; exact World.cell?_setCell_same _ _ _ hc1
    have hzs : Z.heap.size = W.heap.size := by rw [← hZ]; simp
    have hLZ : LL (w.heap.size + 3) Z.heap.size Z (.slice a m c') m ln g := by
      rw [hzs, ← hZ]
      exact (o2.setlow (p := ⟨w.heap.size + 1, 0, none⟩) (by show w.heap.size + 1 < _; omega) _).setlow (p := ⟨w.heap.size + 2, 0, none⟩) (by show w.heap.size + 2 < _; omega) _
    have hBZ : Below w.heap.size w Z := by
      rw [← hZ]
      exact (hC.bel.setCell (p := ⟨w.heap.size + 1, 0, none⟩) (by show w.heap.size ≤ w.heap.size + 1; omega) _).setCell (p := ⟨w.heap.size + 2, 0, none⟩) (by show w.heap.size ≤ w.heap.size + 2; omega) _
    clear hZ hZ'
    have oth : ∀ b, b ≠ w1.heap.size → (Z.putObj w1.heap.size (.deferred none)).heap[b]? = Z.heap[b]? := fun b hb => World.putObj_heap_other hb
    have hn : NotCells w1.heap.size Z := fun cs t fr he => by rw [hDZ] at he; cases he
    have k1 : (Z.putObj w1.heap.size (.deferred none)).cell? ⟨w.heap.size + 1, 0, none⟩ = some (.slice a m c') := (World.cell?_of_block (oth _ (by show w.heap.size + 1 ≠ _; omega))).trans hz1
    have k2 : (Z.putObj w1.heap.size (.deferred none)).cell? ⟨w.heap.size + 2, 0, none⟩ = some (.bool true) := (World.cell?_of_block (oth _ (by show w.heap.size + 2 ≠ _; omega))).trans hz2
    refine ⟨by simp, .inl ⟨_, _, rfl, run_takeDeferred hDZ, ?_⟩⟩
    refine ⟨.tuple #[.slice a m c', .bool true], by simp [results, Tryd.results13, go_sem, k1, k2], _, rfl, ?_, ?_⟩
    · exact hBZ.trans ⟨rfl, rfl, rfl, by simp, fun b hb => oth b (by omega)⟩
    · exact (hLZ.same hn (fun b _ hb => oth b hb)).up (by omega) (by simp)
end Go.Proofs.YtjebnceajpkhmaaDoor
