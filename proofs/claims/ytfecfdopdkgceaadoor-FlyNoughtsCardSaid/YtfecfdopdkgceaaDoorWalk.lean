/- The walk of FlyNoughts: it returns true. -/
import Derived.Test.YtfecfdopdkgceaaDoorMain
namespace Go.Proofs.YtfecfdopdkgceaaDoor
open Go.RowKit Fl

/-- A new list of n noughts. -/
def Zn (n : Nat) : Obj := .cells (madeCells (Value.complex .f64 0 0).cells n) 28

theorem Zn_cell (w : World) (n j : Nat) (hj : j < n) : (w.alloc (Zn n)).cell? ⟨w.heap.size, j, none⟩ = some (.complex .f64 0 0) ∧ (w.alloc (Zn n)).frozen? ⟨w.heap.size, j, none⟩ = false := by
  refine ⟨?_, ?_⟩
  · unfold Zn
    rw [World.cell?_alloc_at _ _ _ _ rfl]
    simp [madeCells, Value.cells, hj, Nat.mod_one]
  · unfold Zn
    rw [World.frozen?_alloc_at _ _ _ _ rfl]

theorem mk_n (n : Nat) (hn : n ≤ 5) (w : World) : (Instr.makeSlice 25 (.int .i64 (n : Int)) (.int .i64 (n : Int))).run Tryd.prog w = .ok (.slice (some ⟨w.heap.size, 0, none⟩) n n) (w.alloc (Zn n)) := by
  obtain ⟨i0, hi, hz0, hz1, hz2⟩ := info_parts info28
  have := run_make (P := Tryd.prog) (w := w) 25 28 i0 _ Tryd.underlying25 hi hz0 .i64 .i64 (n : Int) (n : Int) (by omega) (by omega) (by rw [hz2]; omega) (by omega)
  rw [hz1] at this
  simpa [Zn] using this

theorem fly_n (n : Nat) (h2 : 2 ≤ n) (h5 : n ≤ 5) (g cap : Nat) (w : World) (hc : ∀ j, j < n → ∃ a b, N a ∧ N b ∧ w.cell? ⟨g, j, none⟩ = some (.complex .f64 a b)) :
    Calls Tryd.prog 6 #[.slice (some ⟨g, 0, none⟩) n cap] w (OutF n w) := by
  rcases (show n = 2 ∨ n = 3 ∨ n = 4 ∨ n = 5 by omega) with rfl | rfl | rfl | rfl
  · exact fly_2 g cap w hc
  · exact fly_3 g cap w hc
  · exact fly_4 g cap w hc
  · exact fly_5 g cap w hc

/-- What the filling loop keeps. -/
structure Fill (n X : Nat) (W0 w : World) : Prop where
  xs : ∀ j, j < n → (∃ a b, N a ∧ N b ∧ w.cell? ⟨X, j, none⟩ = some (.complex .f64 a b)) ∧ w.frozen? ⟨X, j, none⟩ = false
  lt : X < w.heap.size
  lo : W0.heap.size ≤ X
  bel : Below W0.heap.size W0 w

theorem Fill.start {n : Nat} {W0 w : World} (h : Below W0.heap.size W0 w) : Fill n w.heap.size W0 (w.alloc (Zn n)) :=
  ⟨fun j hj => ⟨⟨0, 0, .inl rfl, .inl rfl, (Zn_cell w n j hj).1⟩, (Zn_cell w n j hj).2⟩, by simp, h.size, h.alloc h.size _⟩

theorem Fill.step {n X k a b : Nat} {W0 w : World} (h : Fill n X W0 w) (hk : k < n) (ha : N a) (hb : N b) : Fill n X W0 (w.setCell ⟨X, k, none⟩ (.complex .f64 a b)) := by
  refine ⟨fun j hj => ⟨?_, by rw [World.frozen?_setCell]; exact (h.xs j hj).2⟩, by simpa using h.lt, h.lo, h.bel.setCell h.lo _⟩
  by_cases e : j = k
  · subst e
    obtain ⟨⟨a', b', _, _, hc⟩, _⟩ := h.xs j hj
    exact ⟨a, b, ha, hb, World.cell?_setCell_same _ _ _ hc⟩
  · obtain ⟨⟨a', b', ha', hb', hc⟩, _⟩ := h.xs j hj
    refine ⟨a', b', ha', hb', ?_⟩
    rw [World.cell?_setCell_other _ _ _ _ (fun he => e (Addr.mk.inj he).2.1.symm)]
    exact hc

theorem nOf (r : Int) : ∃ n : Nat, 2 ≤ n ∧ n ≤ 5 ∧ wrap64 (2 + wrap64 ((IntKind.u64.wrap r).tmod 4)) = (n : Int) := by
  have h0 : 0 ≤ IntKind.u64.wrap r := by simp [IntKind.wrap, IntKind.bits, IntKind.signed]; omega
  generalize IntKind.u64.wrap r = u at h0
  refine ⟨(2 + u % 4).toNat, by omega, by omega, ?_⟩
  rw [Int.tmod_eq_emod_of_nonneg h0]
  unfold wrap64
  omega

/-- Minus nought's bits. -/
def m0 : Nat := 9223372036854775808
theorem copysign_neg' (w : World) : Calls Tryd.prog 5 #[.float .f64 0, .float .f64 13830554455654793216] w fun e w' => e = .returned (.float .f64 m0) ∧ w = w' :=
  (copysign_neg w).mono fun _ _ ⟨h, h'⟩ => ⟨h, h'.symm⟩

theorem swap_and {p q : Prop} (hq : q) (hp : p) : p ∧ q := ⟨hp, hq⟩
theorem n0 : N 0 := .inl rfl
theorem n1 : N m0 := .inr rfl

set_option maxRecDepth 100000 in
set_option maxHeartbeats 1000000 in
theorem noughts_some (b off len cap : Nat) (r x y : Int) (w : World) (hs : ∀ i, i < len → ∃ v, w.cell? ⟨b, off + i, none⟩ = some (.bool v) ∧ b < w.heap.size) :
    Calls Tryd.prog 3 #[.slice (some ⟨b, off, none⟩) len cap, .int .i64 r, .int .i64 x, .int .i64 y] w fun e w' => e = .returned (.bool true) ∧ Below w.heap.size w w' := by
  have HS := Lib.hid hs
  clear hs
  obtain ⟨n, hn2, hn5, hn⟩ := nOf r
  have hmk : ∀ w, (Instr.makeSlice 25 (.int .i64 (wrap64 (2 + wrap64 ((IntKind.u64.wrap r).tmod 4)))) (.int .i64 (wrap64 (2 + wrap64 ((IntKind.u64.wrap r).tmod 4))))).run Tryd.prog w = .ok (.slice (some ⟨w.heap.size, 0, none⟩) n n) (w.alloc (Zn n)) := by
    rw [hn]; exact mk_n n hn5
  clear hn
  go_enter Tryd.func3, Tryd.ntmps3
  go_wp2_with fail
  refine (fixed_true _).mono ?_
  rintro e w1 ⟨rfl, hb1⟩
  have HB1 := Lib.hid hb1
  clear hb1
  go_wp2_with fail
  go_loopw [30] (fun i wr => ∃ k : Nat, k ≤ n ∧ i = .int .i64 k ∧ Fill n w1.heap.size w wr) (fun i _ => n - (intOf i).toNat)
  case atStart => exact ⟨0, by omega, rfl, Fill.start HB1.out⟩
  case round =>
    obtain ⟨k, hk, rfl, hF⟩ := hrel
    have HF := Lib.hid hF
    by_cases hlt : k < n
    · obtain ⟨⟨a0, b0, -, -, c0⟩, f0⟩ := hF.xs k hlt
      have hbel := hF.bel
      clear hF
      have q1 : (0 : Int) ≤ (k : Int) := by omega
      have q2 : (k : Int) < (n : Int) := by omega
      have q3 : (k : Int) < 5 := by omega
      have hcase : (¬ 2 * (k : Int) < (len : Int) ∨ ∃ v, 2 * (k : Int) < (len : Int) ∧ wr.cell? ⟨b, off + 2 * k, none⟩ = some (.bool v)) ∧
          (¬ 2 * (k : Int) + 1 < (len : Int) ∨ ∃ v, 2 * (k : Int) + 1 < (len : Int) ∧ wr.cell? ⟨b, off + (2 * k + 1), none⟩ = some (.bool v)) := by
        refine ⟨?_, ?_⟩
        · by_cases h : 2 * k < len
          · obtain ⟨v, hv, hb⟩ := HS.out (2 * k) h
            exact .inr ⟨v, by omega, (hbel.cell (by exact hb)).trans hv⟩
          · exact .inl (by omega)
        · by_cases h : 2 * k + 1 < len
          · obtain ⟨v, hv, hb⟩ := HS.out (2 * k + 1) h
            exact .inr ⟨v, by omega, (hbel.cell (by exact hb)).trans hv⟩
          · exact .inl (by omega)
      clear hbel
      obtain ⟨hc1, hc2⟩ := hcase
      rcases hc1 with h1 | ⟨v1, h1, d1⟩
      · rcases hc2 with h2 | ⟨v2, h2, d2⟩
        · go_wp2_with fail
          go_roundw
          case rel => exact ⟨k + 1, by omega, by go_num, HF.out.step hlt (by first | exact n0 | exact n1) (by first | exact n0 | exact n1)⟩
          case measure => simp [intOf]; omega
        · exact absurd h2 (by omega)
      · rcases hc2 with h2 | ⟨v2, h2, d2⟩
        · cases v1
          · go_wp2_with fail
            go_roundw
            case rel => exact ⟨k + 1, by omega, by go_num, HF.out.step hlt (by first | exact n0 | exact n1) (by first | exact n0 | exact n1)⟩
            case measure => simp [intOf]; omega
          · go_wp2_with fail
            refine (copysign_neg' _).mono ?_
            rintro e w' ⟨rfl, rfl⟩
            go_wp2_with fail
            go_roundw
            case rel => exact ⟨k + 1, by omega, by go_num, HF.out.step hlt (by first | exact n0 | exact n1) (by first | exact n0 | exact n1)⟩
            case measure => simp [intOf]; omega
        · cases v1 <;> cases v2
          · go_wp2_with fail
            go_roundw
            case rel => exact ⟨k + 1, by omega, by go_num, HF.out.step hlt (by first | exact n0 | exact n1) (by first | exact n0 | exact n1)⟩
            case measure => simp [intOf]; omega
          · go_wp2_with fail
            refine (copysign_neg' _).mono ?_
            rintro e w' ⟨rfl, rfl⟩
            go_wp2_with fail
            go_roundw
            case rel => exact ⟨k + 1, by omega, by go_num, HF.out.step hlt (by first | exact n0 | exact n1) (by first | exact n0 | exact n1)⟩
            case measure => simp [intOf]; omega
          · go_wp2_with fail
            refine (copysign_neg' _).mono ?_
            rintro e w' ⟨rfl, rfl⟩
            go_wp2_with fail
            go_roundw
            case rel => exact ⟨k + 1, by omega, by go_num, HF.out.step hlt (by first | exact n0 | exact n1) (by first | exact n0 | exact n1)⟩
            case measure => simp [intOf]; omega
          · go_wp2_with fail
            refine (copysign_neg' _).mono ?_
            rintro e w' ⟨rfl, rfl⟩
            go_wp2_with fail
            refine (copysign_neg' _).mono ?_
            rintro e w' ⟨rfl, rfl⟩
            go_wp2_with fail
            go_roundw
            case rel => exact ⟨k + 1, by omega, by go_num, HF.out.step hlt (by first | exact n0 | exact n1) (by first | exact n0 | exact n1)⟩
            case measure => simp [intOf]; omega
    · obtain rfl : k = n := by omega
      have hx : ∀ j, j < k → ∃ a b, N a ∧ N b ∧ wr.cell? ⟨w1.heap.size, j, none⟩ = some (.complex .f64 a b) := fun j hj => (hF.xs j hj).1
      have HX := Lib.hid hx
      clear hF hx hlt hk
      go_wp2_with fail
      refine (fly_n k hn2 hn5 _ _ _ HX.out).mono ?_
      rintro e w2 ⟨h, rfl, hb2, hh1, hh2, hh3⟩
      have HB2 := Lib.hid hb2
      have HH := Lib.hid hh3
      clear hb2 hh3
      go_wp2_with fail
      refine (equal_n _ _ k _ _ _ hn5 (fun j hj => ?_) (fun j hj => (Zn_cell w2 k j hj).1)).mono ?_
      · obtain ⟨a, b, ha, hb, hc⟩ := HH.out j hj
        exact ⟨a, b, ha, hb, by rw [World.cell?_alloc_lt _ _ _ (by exact hh2)]; exact hc⟩
      rintro e w3 ⟨rfl, hb3⟩
      have HB3 := Lib.hid hb3
      clear hb3
      go_wp2_with (go_at_call 8; refine (whole_wh _ _).mono ?_; rintro e w' ⟨rfl, rfl⟩)
      refine (two_same _ _ _ (wh_bd _) (wh_bd _)).mono ?_
      rintro e w4 ⟨rfl, hb4⟩
      have HB4 := Lib.hid hb4
      clear hb4
      go_wp2_with fail
      refine (four_same _ _ _ (wh_bd _) (wh_bd _)).mono ?_
      rintro e w5 ⟨rfl, hb5⟩
      have HB5 := Lib.hid hb5
      clear hb5
      go_wp2_with fail
      have e0 : FloatKind.f64.format.order 0 0 = some .eq := by decide +kernel
      have ex2 : FloatKind.f64.format.order (fb (wh x * 2)) (fb (wh x * 2)) = some .eq := order_is (Is.mk _) (Is.mk _) (by have := wh_bd x; omega)
      have ey2 : FloatKind.f64.format.order (fb (wh y * 2)) (fb (wh y * 2)) = some .eq := order_is (Is.mk _) (Is.mk _) (by have := wh_bd y; omega)
      have ex4 : FloatKind.f64.format.order (fb (wh x * 4)) (fb (wh x * 4)) = some .eq := order_is (Is.mk _) (Is.mk _) (by have := wh_bd x; omega)
      have ey4 : FloatKind.f64.format.order (fb (wh y * 4)) (fb (wh y * 4)) = some .eq := order_is (Is.mk _) (Is.mk _) (by have := wh_bd y; omega)
      have T2 := fun w => twice (wh x) (wh y) w (wh_bd x) (wh_bd y)
      have T4 := fun w => fourfold (wh x) (wh y) w (wh_bd x) (wh_bd y)
      have E2 := fun w => eq2 w ex2 ey2 e0 e0
      have E4 := fun w => eq4 w ex4 ey4 e0 e0 e0 e0 e0 e0
      clear e0 ex2 ey2 ex4 ey4
      have z5 := HB5.out.size
      have t0 : w5.cell? ⟨w4.heap.size, 0, none⟩ = some (.complex .f64 (fb (wh x * 2)) (fb (wh y * 2))) := by rw [HB5.out.cell (by show w4.heap.size < _; simp)]; simp
      have t1 : w5.cell? ⟨w4.heap.size, 1, none⟩ = some (.complex .f64 0 0) := by rw [HB5.out.cell (by show w4.heap.size < _; simp)]; simp
      have l5 : w4.heap.size < w5.heap.size := by simp at z5; omega
      clear z5
      go_quiet ((go_at_call 11; first | with_reducible exact Calls.quiet_of_same (T2 _) | with_reducible exact Calls.quiet_of_same (T4 _)))
      go_wp2_with fail
      go_ret
      have c1 := HF.out.bel
      have c2 := c1.trans (HB2.out.mono c1.size)
      have c3 := (c2.alloc c2.size (Zn k)).trans (HB3.out.mono (by have := c2.size; simp only [World.size_alloc]; omega))
      have c4 := c3.trans (HB4.out.mono c3.size)
      have c5 := (c4.alloc c4.size _).trans (HB5.out.mono (by have := c4.size; simp only [World.size_alloc]; omega))
      exact ⟨rfl, below_drewN (c5.alloc c5.size _) _⟩

set_option maxRecDepth 100000 in
set_option maxHeartbeats 1000000 in
theorem noughts_none (a : Option Addr) (cap : Nat) (r x y : Int) (w : World) :
    Calls Tryd.prog 3 #[.slice a 0 cap, .int .i64 r, .int .i64 x, .int .i64 y] w fun e w' => e = .returned (.bool true) ∧ Below w.heap.size w w' := by
  obtain ⟨n, hn2, hn5, hn⟩ := nOf r
  have hmk : ∀ w, (Instr.makeSlice 25 (.int .i64 (wrap64 (2 + wrap64 ((IntKind.u64.wrap r).tmod 4)))) (.int .i64 (wrap64 (2 + wrap64 ((IntKind.u64.wrap r).tmod 4))))).run Tryd.prog w = .ok (.slice (some ⟨w.heap.size, 0, none⟩) n n) (w.alloc (Zn n)) := by
    rw [hn]; exact mk_n n hn5
  clear hn
  go_enter Tryd.func3, Tryd.ntmps3
  go_wp2_with fail
  refine (fixed_true _).mono ?_
  rintro e w1 ⟨rfl, hb1⟩
  have HB1 := Lib.hid hb1
  clear hb1
  go_wp2_with fail
  go_loopw [30] (fun i wr => ∃ k : Nat, k ≤ n ∧ i = .int .i64 k ∧ Fill n w1.heap.size w wr) (fun i _ => n - (intOf i).toNat)
  case atStart => exact ⟨0, by omega, rfl, Fill.start HB1.out⟩
  case round =>
    obtain ⟨k, hk, rfl, hF⟩ := hrel
    have HF := Lib.hid hF
    by_cases hlt : k < n
    · obtain ⟨⟨a0, b0, -, -, c0⟩, f0⟩ := hF.xs k hlt
      clear hF
      have q1 : (0 : Int) ≤ (k : Int) := by omega
      have q2 : (k : Int) < (n : Int) := by omega
      have q3 : (k : Int) < 5 := by omega
      go_wp2_with fail
      go_roundw
      case rel => exact ⟨k + 1, by omega, by go_num, HF.out.step hlt (by first | exact n0 | exact n1) (by first | exact n0 | exact n1)⟩
      case measure => simp [intOf]; omega
    · obtain rfl : k = n := by omega
      have hx : ∀ j, j < k → ∃ a b, N a ∧ N b ∧ wr.cell? ⟨w1.heap.size, j, none⟩ = some (.complex .f64 a b) := fun j hj => (hF.xs j hj).1
      have HX := Lib.hid hx
      clear hF hx hlt hk
      go_wp2_with fail
      refine (fly_n k hn2 hn5 _ _ _ HX.out).mono ?_
      rintro e w2 ⟨h, rfl, hb2, hh1, hh2, hh3⟩
      have HB2 := Lib.hid hb2
      have HH := Lib.hid hh3
      clear hb2 hh3
      go_wp2_with fail
      refine (equal_n _ _ k _ _ _ hn5 (fun j hj => ?_) (fun j hj => (Zn_cell w2 k j hj).1)).mono ?_
      · obtain ⟨a, b, ha, hb, hc⟩ := HH.out j hj
        exact ⟨a, b, ha, hb, by rw [World.cell?_alloc_lt _ _ _ (by exact hh2)]; exact hc⟩
      rintro e w3 ⟨rfl, hb3⟩
      have HB3 := Lib.hid hb3
      clear hb3
      go_wp2_with (go_at_call 8; refine (whole_wh _ _).mono ?_; rintro e w' ⟨rfl, rfl⟩)
      refine (two_same _ _ _ (wh_bd _) (wh_bd _)).mono ?_
      rintro e w4 ⟨rfl, hb4⟩
      have HB4 := Lib.hid hb4
      clear hb4
      go_wp2_with fail
      refine (four_same _ _ _ (wh_bd _) (wh_bd _)).mono ?_
      rintro e w5 ⟨rfl, hb5⟩
      have HB5 := Lib.hid hb5
      clear hb5
      go_wp2_with fail
      have e0 : FloatKind.f64.format.order 0 0 = some .eq := by decide +kernel
      have ex2 : FloatKind.f64.format.order (fb (wh x * 2)) (fb (wh x * 2)) = some .eq := order_is (Is.mk _) (Is.mk _) (by have := wh_bd x; omega)
      have ey2 : FloatKind.f64.format.order (fb (wh y * 2)) (fb (wh y * 2)) = some .eq := order_is (Is.mk _) (Is.mk _) (by have := wh_bd y; omega)
      have ex4 : FloatKind.f64.format.order (fb (wh x * 4)) (fb (wh x * 4)) = some .eq := order_is (Is.mk _) (Is.mk _) (by have := wh_bd x; omega)
      have ey4 : FloatKind.f64.format.order (fb (wh y * 4)) (fb (wh y * 4)) = some .eq := order_is (Is.mk _) (Is.mk _) (by have := wh_bd y; omega)
      have T2 := fun w => twice (wh x) (wh y) w (wh_bd x) (wh_bd y)
      have T4 := fun w => fourfold (wh x) (wh y) w (wh_bd x) (wh_bd y)
      have E2 := fun w => eq2 w ex2 ey2 e0 e0
      have E4 := fun w => eq4 w ex4 ey4 e0 e0 e0 e0 e0 e0
      clear e0 ex2 ey2 ex4 ey4
      have z5 := HB5.out.size
      have t0 : w5.cell? ⟨w4.heap.size, 0, none⟩ = some (.complex .f64 (fb (wh x * 2)) (fb (wh y * 2))) := by rw [HB5.out.cell (by show w4.heap.size < _; simp)]; simp
      have t1 : w5.cell? ⟨w4.heap.size, 1, none⟩ = some (.complex .f64 0 0) := by rw [HB5.out.cell (by show w4.heap.size < _; simp)]; simp
      have l5 : w4.heap.size < w5.heap.size := by simp at z5; omega
      clear z5
      go_quiet ((go_at_call 11; first | with_reducible exact Calls.quiet_of_same (T2 _) | with_reducible exact Calls.quiet_of_same (T4 _)))
      go_wp2_with fail
      go_ret
      have c1 := HF.out.bel
      have c2 := c1.trans (HB2.out.mono c1.size)
      have c3 := (c2.alloc c2.size (Zn k)).trans (HB3.out.mono (by have := c2.size; simp only [World.size_alloc]; omega))
      have c4 := c3.trans (HB4.out.mono c3.size)
      have c5 := (c4.alloc c4.size _).trans (HB5.out.mono (by have := c4.size; simp only [World.size_alloc]; omega))
      exact ⟨rfl, below_drewN (c5.alloc c5.size _) _⟩
end Go.Proofs.YtfecfdopdkgceaaDoor
