/- The walk of FlyExact: it returns true at whatever eight numbers. -/
import Derived.Test.YtfecfdopdkgceaaFixed
import Derived.Test.YtfecfdopdkgceaaPlain
namespace Go.Proofs.Ytfecfdopdkgceaa
open Go.RowKit Fl

theorem whole_wh (n : Int) (w : World) : Calls Try.prog 5 #[.int .i64 n, .int .i64 1125899906842624] w fun e w' => e = .returned (.int .i64 (wh n)) ∧ w' = w :=
  whole_any n 1125899906842624 w (by omega) (by omega)

theorem two_int (a b c d : Int) (w : World) (ha : -1125899906842624 ≤ a ∧ a ≤ 1125899906842624) (hb : -1125899906842624 ≤ b ∧ b ≤ 1125899906842624) (hc : -1125899906842624 ≤ c ∧ c ≤ 1125899906842624) (hd : -1125899906842624 ≤ d ∧ d ≤ 1125899906842624) :
    Calls Try.prog 6 #[.agg #[.complex .f64 (fb a) (fb b), .complex .f64 (fb c) (fb d)]] w fun e w' =>
      e = .returned (.agg #[.complex .f64 (fb (a + c)) (fb (b + d)), .complex .f64 (fb (a - c)) (fb (b - d))]) ∧ Below w.heap.size w w' :=
  two_any w (add_fb (Is.mk _) (by omega) (by omega) (by omega)) (add_fb (Is.mk _) (by omega) (by omega) (by omega)) (sub_fb (by omega) (by omega) (by omega)) (sub_fb (by omega) (by omega) (by omega))

theorem four_int (ws : Nat → Int) (w : World) :
    Calls Try.prog 7 #[.agg #[.complex .f64 (fb (R ws 0)) (fb (J ws 0)), .complex .f64 (fb (R ws 1)) (fb (J ws 1)), .complex .f64 (fb (R ws 2)) (fb (J ws 2)), .complex .f64 (fb (R ws 3)) (fb (J ws 3))]] w fun e w' =>
      e = .returned (.agg #[.complex .f64 (fb (SA ws 0 4)) (fb (SB ws 0 4)), .complex .f64 (fb (SA ws 1 4)) (fb (SB ws 1 4)), .complex .f64 (fb (SA ws 2 4)) (fb (SB ws 2 4)), .complex .f64 (fb (SA ws 3 4)) (fb (SB ws 3 4))]) ∧ Below w.heap.size w w' := by
  have r0 := R_bd ws 0
  have r1 := R_bd ws 1
  have r2 := R_bd ws 2
  have r3 := R_bd ws 3
  have j0 := J_bd ws 0
  have j1 := J_bd ws 1
  have j2 := J_bd ws 2
  have j3 := J_bd ws 3
  rw [(S0 ws).1, (S0 ws).2, (S1 ws).1, (S1 ws).2, (S2 ws).1, (S2 ws).2, (S3 ws).1, (S3 ws).2]
  exact four_any w (add_fb (Is.mk _) (by omega) (by omega) (by omega)) (add_fb (Is.mk _) (by omega) (by omega) (by omega)) (sub_fb (by omega) (by omega) (by omega)) (sub_fb (by omega) (by omega) (by omega))
    (add_fb (Is.mk _) (by omega) (by omega) (by omega)) (add_fb (Is.mk _) (by omega) (by omega) (by omega)) (sub_fb (by omega) (by omega) (by omega)) (sub_fb (by omega) (by omega) (by omega))
    (add_fb (Is.mk _) (by omega) (by omega) (by omega)) (add_fb (Is.mk _) (by omega) (by omega) (by omega))
    (add_fb (Is.mk _) (by omega) (by omega) (by omega)) (add_fb (neg_is (Is.mk _) (by omega)) (by omega) (by omega) (by omega))
    (sub_fb (by omega) (by omega) (by omega)) (sub_fb (by omega) (by omega) (by omega))
    (add_fb (neg_is (Is.mk _) (by omega)) (by omega) (by omega) (by omega)) (add_fb (Is.mk _) (by omega) (by omega) (by omega))

/-- What the filling loop keeps: after k rounds the first k places are filled. -/
structure Filled (ws : Nat → Int) (B0 B k : Nat) (W0 w : World) : Prop where
  re : ∀ j, j < 4 → w.cell? ⟨B, j, none⟩ = some (.int .i64 (fill (R ws) k j)) ∧ w.frozen? ⟨B, j, none⟩ = false
  im : ∀ j, j < 4 → w.cell? ⟨B + 1, j, none⟩ = some (.int .i64 (fill (J ws) k j)) ∧ w.frozen? ⟨B + 1, j, none⟩ = false
  xs : ∀ j, j < 4 → w.cell? ⟨B + 1 + 1, j, none⟩ = some (.complex .f64 (fb (fill (R ws) k j)) (fb (fill (J ws) k j))) ∧ w.frozen? ⟨B + 1 + 1, j, none⟩ = false
  inp : ∀ j, j < 8 → w.cell? ⟨B0, j, none⟩ = some (.int .i64 (ws j))
  size : B + 3 ≤ w.heap.size
  bel : Below W0.heap.size W0 w
  b0 : B0 < B
  lo : W0.heap.size ≤ B0

theorem Filled.next {ws : Nat → Int} {B0 B k : Nat} {W0 w w' : World} (h : Filled ws B0 B k W0 w) (hk : k < 4)
    (hc : ∀ b j, w'.cell? ⟨b, j, none⟩ = if b = B ∧ j = k then some (.int .i64 (R ws k)) else if b = B + 1 ∧ j = k then some (.int .i64 (J ws k)) else if b = B + 1 + 1 ∧ j = k then some (.complex .f64 (fb (R ws k)) (fb (J ws k))) else w.cell? ⟨b, j, none⟩)
    (hf : ∀ b j, w'.frozen? ⟨b, j, none⟩ = w.frozen? ⟨b, j, none⟩) (hs : w'.heap.size = w.heap.size) (hb : Below W0.heap.size W0 w') : Filled ws B0 B (k + 1) W0 w' := by
  have hb0 := h.b0
  refine ⟨fun j hj => ?_, fun j hj => ?_, fun j hj => ?_, fun j hj => ?_, by rw [hs]; exact h.size, hb, hb0, h.lo⟩
  · rw [hc, hf]
    refine ⟨?_, (h.re j hj).2⟩
    by_cases e : j = k
    · subst e; simp [fill]
    · rw [if_neg (by omega), if_neg (by omega), if_neg (by omega), (h.re j hj).1]
      have : (j < k + 1) = (j < k) := by apply propext; omega
      simp only [fill, this]
  · rw [hc, hf]
    refine ⟨?_, (h.im j hj).2⟩
    by_cases e : j = k
    · subst e; simp [fill]
    · rw [if_neg (by omega), if_neg (by omega), if_neg (by omega), (h.im j hj).1]
      have : (j < k + 1) = (j < k) := by apply propext; omega
      simp only [fill, this]
  · rw [hc, hf]
    refine ⟨?_, (h.xs j hj).2⟩
    by_cases e : j = k
    · subst e; rw [if_neg (by omega), if_neg (by omega), if_pos ⟨rfl, rfl⟩]; simp [fill]
    · rw [if_neg (by omega), if_neg (by omega), if_neg (by omega), (h.xs j hj).1]
      have : (j < k + 1) = (j < k) := by apply propext; omega
      simp only [fill, this]
  · rw [hc, if_neg (by omega), if_neg (by omega), if_neg (by omega)]
    exact h.inp j hj

theorem put2 (w : World) (A B : Addr) (u v x y : Value) (hA : w.cell? A = some x) (hB : w.cell? B = some y) (hne : A.block ≠ B.block) :
    ((w.setCell A u).setCell B v).cell? A = some u ∧ ((w.setCell A u).setCell B v).cell? B = some v := by
  refine ⟨?_, ?_⟩
  · rw [World.cell?_setCell_other _ _ _ _ (fun h => hne (by rw [h]))]
    exact World.cell?_setCell_same _ _ _ hA
  · exact World.cell?_setCell_same _ _ _ (by rw [World.cell?_setCell_other _ _ _ _ (fun h => hne (by rw [h]))]; exact hB)

theorem Filled.step {ws : Nat → Int} {B0 B k : Nat} {W0 w : World} (h : Filled ws B0 B k W0 w) (hk : k < 4) :
    Filled ws B0 B (k + 1) W0 (((w.setCell ⟨B, k, none⟩ (.int .i64 (R ws k))).setCell ⟨B + 1, k, none⟩ (.int .i64 (J ws k))).setCell ⟨B + 1 + 1, k, none⟩ (.complex .f64 (floatOfInt .f64 (R ws k)) (floatOfInt .f64 (J ws k)))).drew.drew := by
  have hb0 := h.b0
  have hlo := h.lo
  refine h.next hk (fun b j => ?_) (fun b j => by simp) (by simp) ((((h.bel.setCell (by show _ ≤ B; omega) _).setCell (by show _ ≤ B + 1; omega) _).setCell (by show _ ≤ B + 1 + 1; omega) _).drew.drew)
  show (((w.setCell ⟨B, k, none⟩ (.int .i64 (R ws k))).setCell ⟨B + 1, k, none⟩ (.int .i64 (J ws k))).setCell ⟨B + 1 + 1, k, none⟩ (.complex .f64 (floatOfInt .f64 (R ws k)) (floatOfInt .f64 (J ws k)))).cell? ⟨b, j, none⟩ = _
  have hne : ∀ b' : Nat, ¬ (b = b' ∧ j = k) → (⟨b', k, none⟩ : Addr) ≠ ⟨b, j, none⟩ := fun b' hn he => hn ⟨(Addr.mk.inj he).1.symm, (Addr.mk.inj he).2.1.symm⟩
  by_cases e1 : b = B ∧ j = k
  · obtain ⟨rfl, rfl⟩ := e1
    rw [if_pos ⟨rfl, rfl⟩, World.cell?_setCell_other _ _ _ _ (hne _ (by omega)), World.cell?_setCell_other _ _ _ _ (hne _ (by omega))]
    exact World.cell?_setCell_same _ _ _ (h.re j hk).1
  · rw [if_neg e1]
    by_cases e2 : b = B + 1 ∧ j = k
    · obtain ⟨rfl, rfl⟩ := e2
      rw [if_pos ⟨rfl, rfl⟩, World.cell?_setCell_other _ _ _ _ (hne _ (by omega))]
      exact World.cell?_setCell_same _ _ _ (by rw [World.cell?_setCell_other _ _ _ _ (hne _ e1)]; exact (h.im j hk).1)
    · rw [if_neg e2]
      by_cases e3 : b = B + 1 + 1 ∧ j = k
      · obtain ⟨rfl, rfl⟩ := e3
        rw [if_pos ⟨rfl, rfl⟩]
        exact World.cell?_setCell_same _ _ _ (by rw [World.cell?_setCell_other _ _ _ _ (hne _ e2), World.cell?_setCell_other _ _ _ _ (hne _ e1)]; exact (h.xs j hk).1)
      · rw [if_neg e3, World.cell?_setCell_other _ _ _ _ (hne _ e3), World.cell?_setCell_other _ _ _ _ (hne _ e2), World.cell?_setCell_other _ _ _ _ (hne _ e1)]

theorem Filled.start (ws : Nat → Int) {B0 : Nat} {W0 w : World} (hb : B0 < w.heap.size) (hlo : W0.heap.size ≤ B0) (hinp : ∀ j, j < 8 → w.cell? ⟨B0, j, none⟩ = some (.int .i64 (ws j))) (hbel : Below W0.heap.size W0 w) :
    Filled ws B0 w.heap.size 0 W0 (((w.alloc (.cells #[.int .i64 0, .int .i64 0, .int .i64 0, .int .i64 0] 24)).alloc (.cells #[.int .i64 0, .int .i64 0, .int .i64 0, .int .i64 0] 24)).alloc (.cells #[.complex .f64 0 0, .complex .f64 0 0, .complex .f64 0 0, .complex .f64 0 0] 26)) := by
  have four : ∀ (v : Value) (j : Nat), j < 4 → (#[v, v, v, v] : Array Value)[j]? = some v := by
    intro v j hj
    match j, hj with
    | 0, _ => rfl
    | 1, _ => rfl
    | 2, _ => rfl
    | 3, _ => rfl
  have z : floatOfInt .f64 0 = 0 := fb_zero
  refine ⟨fun j hj => ?_, fun j hj => ?_, fun j hj => ?_, fun j hj => ?_, by simp, ((hbel.alloc (by omega) _).alloc (by simp; omega) _).alloc (by simp; omega) _, hb, hlo⟩
  · refine ⟨?_, ?_⟩
    · rw [World.cell?_alloc_lt _ _ _ (by simp; omega), World.cell?_alloc_lt _ _ _ (by simp), World.cell?_alloc_at _ _ _ _ rfl, four _ j hj]; simp [fill]
    · rw [World.frozen?_alloc_past _ _ _ (by simp; omega), World.frozen?_alloc_past _ _ _ (by simp), World.frozen?_alloc_at _ _ _ _ rfl]
  · refine ⟨?_, ?_⟩
    · rw [World.cell?_alloc_lt _ _ _ (by simp), World.cell?_alloc_at _ _ _ _ (by simp), four _ j hj]; simp [fill]
    · rw [World.frozen?_alloc_past _ _ _ (by simp), World.frozen?_alloc_at _ _ _ _ (by simp)]
  · refine ⟨?_, ?_⟩
    · rw [World.cell?_alloc_at _ _ _ _ (by simp), four _ j hj]; simp [fill, z]
    · rw [World.frozen?_alloc_at _ _ _ _ (by simp)]
  · rw [World.cell?_alloc_lt _ _ _ (by simp; omega), World.cell?_alloc_lt _ _ _ (by simp; omega), World.cell?_alloc_lt _ _ _ hb]
    exact hinp j hj

/-- What the summing loops read. -/
structure Ready (ws : Nat → Int) (B T F : Nat) (W0 w : World) : Prop where
  re : ∀ j, j < 4 → w.cell? ⟨B, j, none⟩ = some (.int .i64 (R ws j))
  im : ∀ j, j < 4 → w.cell? ⟨B + 1, j, none⟩ = some (.int .i64 (J ws j))
  t0 : w.cell? ⟨T, 0, none⟩ = some (.complex .f64 (fb (R ws 0 + R ws 1)) (fb (J ws 0 + J ws 1)))
  t1 : w.cell? ⟨T, 1, none⟩ = some (.complex .f64 (fb (R ws 0 - R ws 1)) (fb (J ws 0 - J ws 1)))
  fo : ∀ k, k < 4 → w.cell? ⟨F, k, none⟩ = some (.complex .f64 (fb (SA ws k 4)) (fb (SB ws k 4)))
  bel : Below W0.heap.size W0 w

theorem Ready.drew {ws : Nat → Int} {B T F : Nat} {W0 w : World} (h : Ready ws B T F W0 w) : Ready ws B T F W0 w.drew :=
  ⟨h.re, h.im, h.t0, h.t1, h.fo, h.bel.drew⟩

theorem below_ready {ws : Nat → Int} {B T F : Nat} {W0 w : World} (h : Ready ws B T F W0 w) (n : Nat) : Ready ws B T F W0 (w.drewN n) :=
  ⟨fun j hj => by simpa using h.re j hj, fun j hj => by simpa using h.im j hj, by simpa using h.t0, by simpa using h.t1, fun k hk => by simpa using h.fo k hk, below_drewN h.bel n⟩

theorem Filled.all {ws : Nat → Int} {B0 B : Nat} {W0 w : World} (h : Filled ws B0 B 4 W0 w) :
    (∀ j, j < 4 → w.cell? ⟨B, j, none⟩ = some (.int .i64 (R ws j))) ∧ (∀ j, j < 4 → w.cell? ⟨B + 1, j, none⟩ = some (.int .i64 (J ws j))) ∧
    (∀ j, j < 4 → w.cell? ⟨B + 1 + 1, j, none⟩ = some (.complex .f64 (fb (R ws j)) (fb (J ws j)))) := by
  refine ⟨fun j hj => ?_, fun j hj => ?_, fun j hj => ?_⟩
  · have := (h.re j hj).1; simpa [fill, hj] using this
  · have := (h.im j hj).1; simpa [fill, hj] using this
  · have := (h.xs j hj).1; simpa [fill, hj] using this

theorem Ready.start {ws : Nat → Int} {B0 B : Nat} {W0 w wa wb : World} (h : Filled ws B0 B 4 W0 w) (ha : Below w.heap.size w wa)
    (hb : Below (wa.alloc (.cells #[.complex .f64 (fb (R ws 0 + R ws 1)) (fb (J ws 0 + J ws 1)), .complex .f64 (fb (R ws 0 - R ws 1)) (fb (J ws 0 - J ws 1))] 29)).heap.size
      (wa.alloc (.cells #[.complex .f64 (fb (R ws 0 + R ws 1)) (fb (J ws 0 + J ws 1)), .complex .f64 (fb (R ws 0 - R ws 1)) (fb (J ws 0 - J ws 1))] 29)) wb) :
    Ready ws B wa.heap.size wb.heap.size W0 (wb.alloc (.cells #[.complex .f64 (fb (SA ws 0 4)) (fb (SB ws 0 4)), .complex .f64 (fb (SA ws 1 4)) (fb (SB ws 1 4)), .complex .f64 (fb (SA ws 2 4)) (fb (SB ws 2 4)), .complex .f64 (fb (SA ws 3 4)) (fb (SB ws 3 4))] 26)) := by
  obtain ⟨hre, him, -⟩ := h.all
  have hs := h.size
  have hlo := h.lo
  have hb0 := h.b0
  have za := ha.size
  have zb := hb.size
  simp only [World.size_alloc] at zb
  have old : ∀ b j, b < w.heap.size → ∀ o : Obj, (wb.alloc o).cell? ⟨b, j, none⟩ = w.cell? ⟨b, j, none⟩ := by
    intro b j hlt o
    rw [World.cell?_alloc_lt _ _ _ (by show b < _; omega), hb.cell (by show b < _; simp only [World.size_alloc]; omega), World.cell?_alloc_lt _ _ _ (by show b < _; omega), ha.cell (by show b < _; omega)]
  refine ⟨fun j hj => by rw [old _ _ (by omega)]; exact hre j hj, fun j hj => by rw [old _ _ (by omega)]; exact him j hj, ?_, ?_, fun k hk => ?_, ?_⟩
  · rw [World.cell?_alloc_lt _ _ _ (by show wa.heap.size < _; omega), hb.cell (by show wa.heap.size < _; simp)]; simp
  · rw [World.cell?_alloc_lt _ _ _ (by show wa.heap.size < _; omega), hb.cell (by show wa.heap.size < _; simp)]; simp
  · match k, hk with
    | 0, _ => simp
    | 1, _ => simp
    | 2, _ => simp
    | 3, _ => simp
  · have e1 : Below W0.heap.size w wa := ha.mono (by omega)
    exact (((h.bel.trans e1).alloc (by omega) _).trans (hb.mono (by simp only [World.size_alloc]; omega))).alloc (by omega) _

set_option maxRecDepth 100000 in
theorem exact_true (ws : Nat → Int) (w : World) :
    Calls Try.prog 3 #[.agg #[.int .i64 (ws 0), .int .i64 (ws 1), .int .i64 (ws 2), .int .i64 (ws 3), .int .i64 (ws 4), .int .i64 (ws 5), .int .i64 (ws 6), .int .i64 (ws 7)]] w fun e w' => e = .returned (.bool true) ∧ Below w.heap.size w w' := by
  go_enter Try.func3, Try.ntmps3
  go_wp2_with fail
  refine (fixed_true _).mono ?_
  rintro e w1 ⟨rfl, hb1⟩
  have hbox : ∀ j, j < 8 → w1.cell? ⟨w.heap.size, j, none⟩ = some (.int .i64 (ws j)) := by
    intro j hj
    rw [hb1.cell (by simp)]
    match j, hj with
    | 0, _ => simp
    | 1, _ => simp
    | 2, _ => simp
    | 3, _ => simp
    | 4, _ => simp
    | 5, _ => simp
    | 6, _ => simp
    | 7, _ => simp
  have hsz : w.heap.size + 1 ≤ w1.heap.size := by have := hb1.size; simpa using this
  have HB1 := Lib.hid ((((Below.refl _ _).alloc (Nat.le_refl _) _).trans (hb1.mono (by simp))) : Below w.heap.size w w1)
  have HX := Lib.hid hbox
  clear hb1 hbox
  go_wp2_with fail
  go_loopw [18] (fun i wr => ∃ k : Nat, k ≤ 4 ∧ i = .int .i64 k ∧ Filled ws w.heap.size w1.heap.size k w wr) (fun i _ => 4 - (intOf i).toNat)
  case atStart =>
    exact ⟨0, by omega, rfl, Filled.start ws (by omega) (Nat.le_refl _) HX.out HB1.out⟩
  case round =>
    obtain ⟨k, hk, rfl, hF⟩ := hrel
    by_cases hlt : k < 4
    · have HF := Lib.hid hF
      obtain ⟨r1, r2⟩ := hF.re k hlt
      obtain ⟨i1, i2⟩ := hF.im k hlt
      obtain ⟨x1, x2⟩ := hF.xs k hlt
      have p1 := hF.inp (2 * k) (by omega)
      have p2 := hF.inp (2 * k + 1) (by omega)
      have l1 := hF.size
      clear hF
      have n3 : ¬ w1.heap.size + 1 + 1 = w1.heap.size := by omega
      have n1 : ¬ w1.heap.size = w.heap.size := by omega
      have n2 : ¬ w1.heap.size + 1 = w.heap.size := by omega
      have q1 : (0 : Int) ≤ (k : Int) := by omega
      have q2 : (k : Int) < 4 := by omega
      have q3 : (2 : Int) * (k : Int) < 8 := by omega
      have q4 : (2 : Int) * (k : Int) + 1 < 8 := by omega
      have q5 : (0 : Int) ≤ 2 * (k : Int) := by omega
      have q6 : (0 : Int) ≤ 2 * (k : Int) + 1 := by omega
      have t1 : (2 * (k : Int)).toNat = 2 * k := by omega
      have t2 : (2 * (k : Int) + 1).toNat = 2 * k + 1 := by omega
      obtain ⟨s1, s2⟩ := put2 wr ⟨w1.heap.size, k, none⟩ ⟨w1.heap.size + 1, k, none⟩ (.int .i64 (R ws k)) (.int .i64 (J ws k)) _ _ r1 i1 (by simp)
      have hR : wh (ws (2 * k)) = R ws k := rfl
      have hJ : wh (ws (2 * k + 1)) = J ws k := rfl
      have m1 : IntKind.i64.wrap (2 * (k : Int)) = 2 * (k : Int) := IntWalk.i64_in _ (by omega)
      have m2 : IntKind.i64.wrap (2 * (k : Int) + 1) = 2 * (k : Int) + 1 := IntWalk.i64_in _ (by omega)
      go_wp2_with fail
      go_region_held3 (fun w' => w'.cell? ⟨w.heap.size, 2 * k, none⟩ = some (.int .i64 (ws (2 * k))) ∧ w'.cell? ⟨w.heap.size, 2 * k + 1, none⟩ = some (.int .i64 (ws (2 * k + 1)))) (go_keep)
        (first | (go_at_call 5; refine (whole_wh _ _).mono ?_; rintro e w' ⟨rfl, rfl⟩))
      go_wp2_with fail
      go_region_held3 (fun w' => w'.cell? ⟨w1.heap.size, k, none⟩ = some (.int .i64 (R ws k)) ∧ w'.cell? ⟨w1.heap.size + 1, k, none⟩ = some (.int .i64 (J ws k))) (go_keep)
        (fail)
      go_wp2_with fail
      go_roundw
      case rel =>
        exact ⟨k + 1, by omega, by go_num, HF.out.step hlt⟩
      case measure => simp [intOf]; omega
    · obtain rfl : k = 4 := by omega
      have hF2 := hF.all
      have l1 := hF.size
      have HF := Lib.hid hF
      clear hF hlt hk
      have x0 := hF2.2.2 0 (by omega)
      have x1 := hF2.2.2 1 (by omega)
      have x2 := hF2.2.2 2 (by omega)
      have x3 := hF2.2.2 3 (by omega)
      have HF2 := Lib.hid hF2
      clear hF2
      go_wp2_with fail
      refine (two_int _ _ _ _ _ (R_bd _ _) (J_bd _ _) (R_bd _ _) (J_bd _ _)).mono ?_
      rintro e wa ⟨rfl, hba⟩
      have za := hba.size
      have y0 : wa.cell? ⟨w1.heap.size + 1 + 1, 0, none⟩ = _ := (hba.cell (p := ⟨w1.heap.size + 1 + 1, 0, none⟩) (by show w1.heap.size + 1 + 1 < _; omega)).trans x0
      have y1 : wa.cell? ⟨w1.heap.size + 1 + 1, 1, none⟩ = _ := (hba.cell (p := ⟨w1.heap.size + 1 + 1, 1, none⟩) (by show w1.heap.size + 1 + 1 < _; omega)).trans x1
      have y2 : wa.cell? ⟨w1.heap.size + 1 + 1, 2, none⟩ = _ := (hba.cell (p := ⟨w1.heap.size + 1 + 1, 2, none⟩) (by show w1.heap.size + 1 + 1 < _; omega)).trans x2
      have y3 : wa.cell? ⟨w1.heap.size + 1 + 1, 3, none⟩ = _ := (hba.cell (p := ⟨w1.heap.size + 1 + 1, 3, none⟩) (by show w1.heap.size + 1 + 1 < _; omega)).trans x3
      have HBA := Lib.hid hba
      clear hba x0 x1 x2 x3
      have l2 : w1.heap.size + 1 + 1 < wa.heap.size := by omega
      go_wp2_with fail
      refine (four_int ws _).mono ?_
      rintro e wb ⟨rfl, hbb⟩
      have HBB := Lib.hid hbb
      clear hbb
      go_wp2_with fail
      go_loopw [9] (fun i wr => ∃ k : Nat, k ≤ 4 ∧ i = .int .i64 k ∧ Ready ws w1.heap.size wa.heap.size wb.heap.size w wr) (fun i _ => 4 - (intOf i).toNat)
      case atStart =>
        exact ⟨0, by omega, rfl, Ready.start HF.out HBA.out HBB.out⟩
      case round =>
        obtain ⟨k, hk, rfl, hR⟩ := hrel
        clear l1 l2 y0 y1 y2 y3 za
        obtain ⟨wo, rfl⟩ : ∃ wo : World, wo = wr := ⟨_, rfl⟩
        by_cases hlt : k < 4
        · have HR := Lib.hid hR
          have f0 := hR.fo k hlt
          clear hR
          have hd : decide ((k : Int) < 4) = true := by simp; omega
          go_wp2_with fail
          go_loopw [10, 11, 12] (fun a b i wr => ∃ j : Nat, j ≤ 4 ∧ i = .int .i64 j ∧ a = .int .i64 (SA ws k j) ∧ b = .int .i64 (SB ws k j) ∧ Ready ws w1.heap.size wa.heap.size wb.heap.size w wr) (fun _ _ i _ => 4 - (intOf i).toNat)
          case atStart => exact ⟨0, by omega, rfl, rfl, rfl, HR.out⟩
          case round =>
            obtain ⟨j, hj, rfl, rfl, rfl, hR2⟩ := hrel
            have f1 := hR2.fo k hlt
            by_cases hjt : j < 4
            · have g1 := hR2.re j hjt
              have g2 := hR2.im j hjt
              have HR2 := Lib.hid hR2
              clear hR2
              have q1 : (0 : Int) ≤ (j : Int) := by omega
              have q2 : (j : Int) < 4 := by omega
              have hd2 : decide ((j : Int) < 4) = true := by simp; omega
              go_wp2_with fail
              go_quiet (fail)
              obtain ⟨P, hP⟩ : ∃ P : Nat, P = j * k := ⟨_, rfl⟩
              have hP9 : P ≤ 9 := by rw [hP]; exact Nat.le_trans (Nat.mul_le_mul (show j ≤ 3 by omega) (show k ≤ 3 by omega)) (by decide)
              have HP := Lib.hid hP
              have p0 : (0 : Int) ≤ (P : Int) := by omega
              have p1 : (P : Int) ≤ 9 := by omega
              have w1' : IntKind.i64.wrap ((j : Int) * (k : Int)) = (P : Int) := by rw [hP, ← Int.natCast_mul, ← hP]; exact IntWalk.i64_in _ (by omega)
              have w2' : wrap64 ((j : Int) * (k : Int)) = (P : Int) := by rw [hP, ← Int.natCast_mul, ← hP]; exact IntWalk.wrap64_in _ (by omega)
              clear hP
              go_wp2_with fail
              go_loop [13, 14, 15] (fun c d i => ∃ q : Nat, q ≤ P % 4 ∧ i = .int .i64 q ∧ c = .int .i64 (C ws q j) ∧ d = .int .i64 (D ws q j)) (fun _ _ i => P % 4 - (intOf i).toNat)
              case atStart => exact ⟨0, by omega, rfl, rfl, rfl⟩
              case round =>
                obtain ⟨q, hq, rfl, rfl, rfl⟩ := hrel
                obtain ⟨⟨c1, c2⟩, d1, d2⟩ := CD_bd ws q j
                by_cases hqt : q < P % 4
                · go_wp2_with fail
                  go_round
                  case rel => exact ⟨q + 1, by omega, by go_num, by rw [C_succ], by rw [D_succ]⟩
                  case measure => simp [intOf]; omega
                · obtain rfl : q = P % 4 := by omega
                  obtain ⟨⟨s1, s2⟩, s3, s4⟩ := S_bd ws k j
                  go_wp2_with fail
                  go_roundw
                  case rel => exact ⟨j + 1, by omega, by go_num, by rw [SA_succ, ← HP.out], by rw [SB_succ, ← HP.out], below_ready HR2.out nq⟩
                  case measure => simp [intOf]; omega
            · obtain rfl : j = 4 := by omega
              have HR2 := Lib.hid hR2
              clear hR2 hjt hj
              have bd := S_bd ws k 4
              have o1 : FloatKind.f64.format.order (fb (SA ws k 4)) (fb (SA ws k 4)) = some .eq := order_is (Is.mk _) (Is.mk _) (by omega)
              have o2 : FloatKind.f64.format.order (fb (SB ws k 4)) (fb (SB ws k 4)) = some .eq := order_is (Is.mk _) (Is.mk _) (by omega)
              clear bd
              have q1 : (0 : Int) ≤ (k : Int) := by omega
              have q2 : (k : Int) < 4 := by omega
              go_wp2_with fail
              go_roundw
              case rel => exact ⟨k + 1, by omega, by go_num, HR2.out⟩
              case measure => simp [intOf]; omega
        · obtain rfl : k = 4 := by omega
          have r0 := hR.re 0 (by omega)
          have r1 := hR.re 1 (by omega)
          have i0 := hR.im 0 (by omega)
          have i1 := hR.im 1 (by omega)
          have t0 := hR.t0
          have t1 := hR.t1
          have HR := Lib.hid hR
          clear hR hlt hk
          obtain ⟨b0, b0'⟩ := R_bd ws 0
          obtain ⟨b1, b1'⟩ := R_bd ws 1
          obtain ⟨b2, b2'⟩ := J_bd ws 0
          obtain ⟨b3, b3'⟩ := J_bd ws 1
          have o1 : FloatKind.f64.format.order (fb (R ws 0 + R ws 1)) (fb (R ws 0 + R ws 1)) = some .eq := order_is (Is.mk _) (Is.mk _) (by omega)
          have o2 : FloatKind.f64.format.order (fb (J ws 0 + J ws 1)) (fb (J ws 0 + J ws 1)) = some .eq := order_is (Is.mk _) (Is.mk _) (by omega)
          have o3 : FloatKind.f64.format.order (fb (R ws 0 - R ws 1)) (fb (R ws 0 - R ws 1)) = some .eq := order_is (Is.mk _) (Is.mk _) (by omega)
          have o4 : FloatKind.f64.format.order (fb (J ws 0 - J ws 1)) (fb (J ws 0 - J ws 1)) = some .eq := order_is (Is.mk _) (Is.mk _) (by omega)
          go_wp2_with fail
          go_ret
          exact ⟨rfl, HR.out.bel⟩
end Go.Proofs.Ytfecfdopdkgceaa
