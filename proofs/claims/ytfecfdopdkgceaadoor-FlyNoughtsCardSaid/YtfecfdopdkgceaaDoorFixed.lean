/- The law's fixed facts: 'fixed' returns true. -/
import Derived.Test.YtfecfdopdkgceaaDoorSmall
namespace Go.Proofs.YtfecfdopdkgceaaDoor
open Go.RowKit Fl

theorem bcell {W w1 : World} (hb : Below W.heap.size W w1) : (∀ b o, b < W.heap.size → w1.cell? ⟨b, o, none⟩ = W.cell? ⟨b, o, none⟩) ∧ (∀ b o, b < W.heap.size → w1.frozen? ⟨b, o, none⟩ = W.frozen? ⟨b, o, none⟩) :=
  ⟨fun b o h => hb.cell (p := ⟨b, o, none⟩) h, fun b o h => hb.frozen (p := ⟨b, o, none⟩) h⟩

theorem work5 (w : World) : Calls Tryd.prog 13 #[.int .i64 5] w fun e w' => e = .returned (.tuple #[.int .i64 32, .int .i64 16]) ∧ w' = w := by
  go_enter Tryd.func13, Tryd.ntmps13
  go_wp2
  go_ret2
  exact ⟨rfl, rfl⟩
theorem has5 (w : World) : Calls Tryd.prog 15 #[.int .i64 5] w fun e w' => e = .returned (.bool true) ∧ w' = w := by
  go_enter Tryd.func15, Tryd.ntmps15
  go_wp2
  go_ret
  exact ⟨rfl, rfl⟩

theorem frombits (n : Int) (w : World) : (callFunc 14 #[.int .u64 n]).run Tryd.prog w = .ok (.value (.float .f64 n.toNat)) w := by kernel_rfl
theorem ord_refl1 : FloatKind.f64.format.order 4607182418800017408 4607182418800017408 = some .eq := by decide +kernel
theorem ord_refl2 : FloatKind.f64.format.order 13826050856027422720 13826050856027422720 = some .eq := by decide +kernel
theorem ord_refl3 : FloatKind.f64.format.order 4605975682916830378 4605975682916830378 = some .eq := by decide +kernel
theorem ord_refl0 : FloatKind.f64.format.order 0 0 = some .eq := by decide +kernel
theorem twoC (w : World) : Calls Tryd.prog 9 #[.agg #[.complex .f64 4607182418800017408 4611686018427387904, .complex .f64 4613937818241073152 4616189618054758400]] w fun e w' =>
    e = .returned (.agg #[.complex .f64 4616189618054758400 4618441417868443648, .complex .f64 13835058055282163712 13835058055282163712]) ∧ Below w.heap.size w w' :=
  two_any w (by decide +kernel) (by decide +kernel) (by decide +kernel) (by decide +kernel)
theorem threeC (w : World) : Calls Tryd.prog 12 #[.agg #[.complex .f64 0 0, .complex .f64 4607182418800017408 0, .complex .f64 0 0]] w fun e w' =>
    e = .returned (.agg #[.complex .f64 4607182418800017408 0, .complex .f64 13826050856027422720 13829347719771606186, .complex .f64 13826050856027422720 4605975682916830378]) ∧ Below w.heap.size w w' :=
  three_any (tr := 4607182418800017408) (ti := 0) (lr := 4607182418800017408) (li := 0) (ur := 4605975682916830378) (ui := 0) (hr := 4602678819172646912) (hi := 0) (mr := 13826050856027422720) (mi := 0) w
    (by decide +kernel) (by decide +kernel) (by decide +kernel) (by decide +kernel) (by decide +kernel) (by decide +kernel) (by decide +kernel) (by decide +kernel)
    (by decide +kernel) (by decide +kernel) (by decide +kernel) (by decide +kernel) (by decide +kernel) (by decide +kernel) (by decide +kernel) (by decide +kernel)
theorem fourC (w : World) : Calls Tryd.prog 10 #[.agg #[.complex .f64 4607182418800017408 0, .complex .f64 4611686018427387904 0, .complex .f64 4613937818241073152 0, .complex .f64 4616189618054758400 0]] w fun e w' =>
    e = .returned (.agg #[.complex .f64 4621819117588971520 0, .complex .f64 13835058055282163712 4611686018427387904, .complex .f64 13835058055282163712 0, .complex .f64 13835058055282163712 13835058055282163712]) ∧ Below w.heap.size w w' :=
  four_any (pr := 4616189618054758400) (pi := 0) (qr := 13835058055282163712) (qi := 0) (sr := 4618441417868443648) (si := 0) (ur := 13835058055282163712) (ui := 0) w
    (by decide +kernel) (by decide +kernel) (by decide +kernel) (by decide +kernel) (by decide +kernel) (by decide +kernel) (by decide +kernel) (by decide +kernel)
    (by decide +kernel) (by decide +kernel) (by decide +kernel) (by decide +kernel) (by decide +kernel) (by decide +kernel) (by decide +kernel) (by decide +kernel)

theorem neq2 (w : World) : (binOp .neq 35 (.agg #[.complex .f64 4616189618054758400 4618441417868443648, .complex .f64 13835058055282163712 13835058055282163712]) (.agg #[.complex .f64 4616189618054758400 4618441417868443648, .complex .f64 13835058055282163712 13835058055282163712])).run Tryd.prog w = .ok (.bool false) w := by kernel_rfl
theorem neq4 (w : World) : (binOp .neq 37 (.agg #[.complex .f64 4621819117588971520 0, .complex .f64 13835058055282163712 4611686018427387904, .complex .f64 13835058055282163712 0, .complex .f64 13835058055282163712 13835058055282163712]) (.agg #[.complex .f64 4621819117588971520 0, .complex .f64 13835058055282163712 4611686018427387904, .complex .f64 13835058055282163712 0, .complex .f64 13835058055282163712 13835058055282163712])).run Tryd.prog w = .ok (.bool false) w := by kernel_rfl

theorem fixed_true (w : World) : Calls Tryd.prog 4 #[] w fun e w' => e = .returned (.bool true) ∧ Below w.heap.size w w' := by
  have n2 := neq2
  have n4 := neq4
  go_enter Tryd.func4, Tryd.ntmps4
  go_wp2_with fail
  refine (twoC _).mono ?_
  rintro e w1 ⟨rfl, hb1⟩
  go_wp2_with fail
  refine (fourC _).mono ?_
  rintro e w2 ⟨rfl, hb2⟩
  go_wp2_with fail
  refine (threeC _).mono ?_
  rintro e w3 ⟨rfl, hb3⟩
  obtain ⟨c2, -⟩ := bcell hb2
  obtain ⟨c3, -⟩ := bcell hb3
  have z1 := hb1.size
  have z2 := hb2.size
  have z3 := hb3.size
  simp at z2 z3
  have a0 : w3.cell? ⟨w1.heap.size, 0, none⟩ = some (.complex .f64 4616189618054758400 4618441417868443648) := by
    rw [c3 _ _ (by simp; omega), World.cell?_alloc_lt _ _ _ (by simp; omega), c2 _ _ (by simp)]; simp
  have a1 : w3.cell? ⟨w1.heap.size, 1, none⟩ = some (.complex .f64 13835058055282163712 13835058055282163712) := by
    rw [c3 _ _ (by simp; omega), World.cell?_alloc_lt _ _ _ (by simp; omega), c2 _ _ (by simp)]; simp
  have b0 : w3.cell? ⟨w2.heap.size, 0, none⟩ = some (.complex .f64 4621819117588971520 0) := by
    rw [c3 _ _ (by simp)]; simp
  have b1 : w3.cell? ⟨w2.heap.size, 1, none⟩ = some (.complex .f64 13835058055282163712 4611686018427387904) := by
    rw [c3 _ _ (by simp)]; simp
  have b2 : w3.cell? ⟨w2.heap.size, 2, none⟩ = some (.complex .f64 13835058055282163712 0) := by
    rw [c3 _ _ (by simp)]; simp
  have b3 : w3.cell? ⟨w2.heap.size, 3, none⟩ = some (.complex .f64 13835058055282163712 13835058055282163712) := by
    rw [c3 _ _ (by simp)]; simp
  have hb : Below w.heap.size w w3 := (hb1.trans (((Below.refl _ _).alloc (by omega) _).trans (hb2.mono (by simp; omega)))).trans (((Below.refl _ _).alloc (by omega) _).trans (hb3.mono (by simp; omega)))
  clear hb1 hb2 hb3 c2 c3
  have HB := Lib.hid hb
  clear hb
  have l1 : w1.heap.size < w3.heap.size := by omega
  have l2 : w2.heap.size < w3.heap.size := by omega
  go_wp2_with (go_at_call 13; refine (work5 _).mono ?_; rintro e w' ⟨rfl, rfl⟩)
  have o0 := ord_refl0
  have o1 := ord_refl1
  have o2 := ord_refl2
  have o3 := ord_refl3
  have fb := frombits
  go_quiet ((go_at_call 15; exact Calls.quiet_of_same (has5 _)))
  go_wp2
  go_ret
  exact ⟨rfl, below_drewN (HB.out.alloc (by omega) _) _⟩
end Go.Proofs.YtfecfdopdkgceaaDoor
