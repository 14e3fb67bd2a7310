/- The small functions of fly and cplx, and Two, Three, Four, by contract. -/
import Derived.Test.YtfecfdopdkgceaaDoorProg
import Derived.Test.YtfecfdopdkgceaaDoorFloat
import Derived.Test.YtfecfdopdkgceaaDoorLaws
import Derived.Deep.QuietTactic
import Derived.BigQuiet
import Derived.StillTailTactics
import Derived.Deep.RegionHeld3
import Derived.Lib.Hide
import Derived.Outline
namespace Go.Proofs.YtfecfdopdkgceaaDoor
open Go.RowKit Fl

theorem plus_any {a b c d x y : Nat} (w : World) (h1 : floatBits .add .f64 a c = some x) (h2 : floatBits .add .f64 b d = some y) :
    Calls Tryd.prog 18 #[.complex .f64 a b, .complex .f64 c d] w fun e w' => e = .returned (.complex .f64 x y) ∧ w' = w := by
  have r1 := fun w : World => run_float_arith (P := Tryd.prog) w .add 26 .f64 a c x h1
  have r2 := fun w : World => run_float_arith (P := Tryd.prog) w .add 26 .f64 b d y h2
  clear h1 h2
  go_enter Tryd.func18, Tryd.ntmps18
  go_wp2
  go_ret
  exact ⟨rfl, rfl⟩

theorem less_any {a b c d x y : Nat} (w : World) (h1 : floatBits .sub .f64 a c = some x) (h2 : floatBits .sub .f64 b d = some y) :
    Calls Tryd.prog 19 #[.complex .f64 a b, .complex .f64 c d] w fun e w' => e = .returned (.complex .f64 x y) ∧ w' = w := by
  have r1 := fun w : World => run_float_arith (P := Tryd.prog) w .sub 26 .f64 a c x h1
  have r2 := fun w : World => run_float_arith (P := Tryd.prog) w .sub 26 .f64 b d y h2
  clear h1 h2
  go_enter Tryd.func19, Tryd.ntmps19
  go_wp2
  go_ret
  exact ⟨rfl, rfl⟩

theorem minusI_any (a b : Nat) (w : World) :
    Calls Tryd.prog 20 #[.complex .f64 a b] w fun e w' => e = .returned (.complex .f64 b (Op.negFloat .f64 a)) ∧ w' = w := by
  go_enter Tryd.func20, Tryd.ntmps20
  go_wp2
  go_ret
  exact ⟨rfl, rfl⟩

theorem timesI_any (a b : Nat) (w : World) :
    Calls Tryd.prog 21 #[.complex .f64 a b] w fun e w' => e = .returned (.complex .f64 (Op.negFloat .f64 b) a) ∧ w' = w := by
  go_enter Tryd.func21, Tryd.ntmps21
  go_wp2
  go_ret
  exact ⟨rfl, rfl⟩

theorem times_any {a b f x y : Nat} (w : World) (h1 : floatBits .mul .f64 a f = some x) (h2 : floatBits .mul .f64 b f = some y) :
    Calls Tryd.prog 22 #[.complex .f64 a b, .float .f64 f] w fun e w' => e = .returned (.complex .f64 x y) ∧ w' = w := by
  have r1 := fun w : World => run_float_arith (P := Tryd.prog) w .mul 26 .f64 a f x h1
  have r2 := fun w : World => run_float_arith (P := Tryd.prog) w .mul 26 .f64 b f y h2
  clear h1 h2
  go_enter Tryd.func22, Tryd.ntmps22
  go_wp2
  go_ret
  exact ⟨rfl, rfl⟩

theorem whole_any (n m : Int) (w : World) (h0 : 0 ≤ m) (h1 : m ≤ 1125899906842624) :
    Calls Tryd.prog 8 #[.int .i64 n, .int .i64 m] w fun e w' => e = .returned (.int .i64 (n.tmod (m + 1))) ∧ w' = w := by
  go_enter Tryd.func8, Tryd.ntmps8
  go_wp2
  go_ret
  exact ⟨rfl, rfl⟩

theorem two_any {ai ar bi br pi pr qi qr : Nat} (w : World) (h1 : floatBits .add .f64 ar br = some pr) (h2 : floatBits .add .f64 ai bi = some pi) (h3 : floatBits .sub .f64 ar br = some qr) (h4 : floatBits .sub .f64 ai bi = some qi) :
    Calls Tryd.prog 9 #[.agg #[.complex .f64 ar ai, .complex .f64 br bi]] w fun e w' => e = .returned (.agg #[.complex .f64 pr pi, .complex .f64 qr qi]) ∧ Below w.heap.size w w' := by
  have H1 := Lib.hid h1
  have H2 := Lib.hid h2
  have H3 := Lib.hid h3
  have H4 := Lib.hid h4
  clear h1 h2 h3 h4
  go_enter Tryd.func9, Tryd.ntmps9
  go_wp2_with fail
  go_region_held3 (fun w' => w'.cell? ⟨w.heap.size, 0, none⟩ = some (.complex .f64 ar ai) ∧ w'.cell? ⟨w.heap.size, 1, none⟩ = some (.complex .f64 br bi)) (go_keep)
    (first | (go_at_call 18; refine (plus_any _ (by first | with_reducible exact H1.out | with_reducible exact H2.out | with_reducible exact H3.out | with_reducible exact H4.out) (by first | with_reducible exact H1.out | with_reducible exact H2.out | with_reducible exact H3.out | with_reducible exact H4.out)).mono ?_; rintro e w' ⟨rfl, rfl⟩) | (go_at_call 19; refine (less_any _ (by first | with_reducible exact H1.out | with_reducible exact H2.out | with_reducible exact H3.out | with_reducible exact H4.out) (by first | with_reducible exact H1.out | with_reducible exact H2.out | with_reducible exact H3.out | with_reducible exact H4.out)).mono ?_; rintro e w' ⟨rfl, rfl⟩))
  go_wp2
  exact bodyPost_ret (v := .agg #[.complex .f64 pr pi, .complex .f64 qr qi]) (by simp [results, Tryd.results9, go_sem]) rfl ⟨rfl, (((Below.refl _ _).alloc (Nat.le_refl _) _).alloc (by simp) _).drew⟩

theorem three_any {ai ar bi br ci cr hi hr li lr mi mr ti tr ui ur vi vr yi yr zi zr : Nat} (w : World) (h1 : floatBits .add .f64 br cr = some tr) (h2 : floatBits .add .f64 bi ci = some ti) (h3 : floatBits .sub .f64 br cr = some lr) (h4 : floatBits .sub .f64 bi ci = some li) (h5 : floatBits .mul .f64 lr 4605975682916830378 = some ur) (h6 : floatBits .mul .f64 li 4605975682916830378 = some ui) (h7 : floatBits .mul .f64 tr 4602678819172646912 = some hr) (h8 : floatBits .mul .f64 ti 4602678819172646912 = some hi) (h9 : floatBits .sub .f64 ar hr = some mr) (h10 : floatBits .sub .f64 ai hi = some mi) (h11 : floatBits .add .f64 ar tr = some yr) (h12 : floatBits .add .f64 ai ti = some yi) (h13 : floatBits .add .f64 mr ui = some zr) (h14 : floatBits .add .f64 mi (Op.negFloat .f64 ur) = some zi) (h15 : floatBits .add .f64 mr (Op.negFloat .f64 ui) = some vr) (h16 : floatBits .add .f64 mi ur = some vi) :
    Calls Tryd.prog 12 #[.agg #[.complex .f64 ar ai, .complex .f64 br bi, .complex .f64 cr ci]] w fun e w' => e = .returned (.agg #[.complex .f64 yr yi, .complex .f64 zr zi, .complex .f64 vr vi]) ∧ Below w.heap.size w w' := by
  have H1 := Lib.hid h1
  have H2 := Lib.hid h2
  have H3 := Lib.hid h3
  have H4 := Lib.hid h4
  have H5 := Lib.hid h5
  have H6 := Lib.hid h6
  have H7 := Lib.hid h7
  have H8 := Lib.hid h8
  have H9 := Lib.hid h9
  have H10 := Lib.hid h10
  have H11 := Lib.hid h11
  have H12 := Lib.hid h12
  have H13 := Lib.hid h13
  have H14 := Lib.hid h14
  have H15 := Lib.hid h15
  have H16 := Lib.hid h16
  clear h1 h2 h3 h4 h5 h6 h7 h8 h9 h10 h11 h12 h13 h14 h15 h16
  go_enter Tryd.func12, Tryd.ntmps12
  go_wp2_with (first | (go_at_call 18; refine (plus_any _ (by first | with_reducible exact H1.out | with_reducible exact H2.out | with_reducible exact H3.out | with_reducible exact H4.out | with_reducible exact H5.out | with_reducible exact H6.out | with_reducible exact H7.out | with_reducible exact H8.out | with_reducible exact H9.out | with_reducible exact H10.out | with_reducible exact H11.out | with_reducible exact H12.out | with_reducible exact H13.out | with_reducible exact H14.out | with_reducible exact H15.out | with_reducible exact H16.out) (by first | with_reducible exact H1.out | with_reducible exact H2.out | with_reducible exact H3.out | with_reducible exact H4.out | with_reducible exact H5.out | with_reducible exact H6.out | with_reducible exact H7.out | with_reducible exact H8.out | with_reducible exact H9.out | with_reducible exact H10.out | with_reducible exact H11.out | with_reducible exact H12.out | with_reducible exact H13.out | with_reducible exact H14.out | with_reducible exact H15.out | with_reducible exact H16.out)).mono ?_; rintro e w' ⟨rfl, rfl⟩) | (go_at_call 19; refine (less_any _ (by first | with_reducible exact H1.out | with_reducible exact H2.out | with_reducible exact H3.out | with_reducible exact H4.out | with_reducible exact H5.out | with_reducible exact H6.out | with_reducible exact H7.out | with_reducible exact H8.out | with_reducible exact H9.out | with_reducible exact H10.out | with_reducible exact H11.out | with_reducible exact H12.out | with_reducible exact H13.out | with_reducible exact H14.out | with_reducible exact H15.out | with_reducible exact H16.out) (by first | with_reducible exact H1.out | with_reducible exact H2.out | with_reducible exact H3.out | with_reducible exact H4.out | with_reducible exact H5.out | with_reducible exact H6.out | with_reducible exact H7.out | with_reducible exact H8.out | with_reducible exact H9.out | with_reducible exact H10.out | with_reducible exact H11.out | with_reducible exact H12.out | with_reducible exact H13.out | with_reducible exact H14.out | with_reducible exact H15.out | with_reducible exact H16.out)).mono ?_; rintro e w' ⟨rfl, rfl⟩) | (go_at_call 22; refine (times_any _ (by first | with_reducible exact H1.out | with_reducible exact H2.out | with_reducible exact H3.out | with_reducible exact H4.out | with_reducible exact H5.out | with_reducible exact H6.out | with_reducible exact H7.out | with_reducible exact H8.out | with_reducible exact H9.out | with_reducible exact H10.out | with_reducible exact H11.out | with_reducible exact H12.out | with_reducible exact H13.out | with_reducible exact H14.out | with_reducible exact H15.out | with_reducible exact H16.out) (by first | with_reducible exact H1.out | with_reducible exact H2.out | with_reducible exact H3.out | with_reducible exact H4.out | with_reducible exact H5.out | with_reducible exact H6.out | with_reducible exact H7.out | with_reducible exact H8.out | with_reducible exact H9.out | with_reducible exact H10.out | with_reducible exact H11.out | with_reducible exact H12.out | with_reducible exact H13.out | with_reducible exact H14.out | with_reducible exact H15.out | with_reducible exact H16.out)).mono ?_; rintro e w' ⟨rfl, rfl⟩) | (go_at_call 20; refine (minusI_any _ _ _).mono ?_; rintro e w' ⟨rfl, rfl⟩) | (go_at_call 21; refine (timesI_any _ _ _).mono ?_; rintro e w' ⟨rfl, rfl⟩))
  go_region_held3 (fun w' => w'.cell? ⟨w.heap.size, 0, none⟩ = some (.complex .f64 ar ai) ∧ w'.cell? ⟨w.heap.size, 1, none⟩ = some (.complex .f64 br bi) ∧ w'.cell? ⟨w.heap.size, 2, none⟩ = some (.complex .f64 cr ci)) (go_keep)
    (first | (go_at_call 19; refine (less_any _ (by first | with_reducible exact H1.out | with_reducible exact H2.out | with_reducible exact H3.out | with_reducible exact H4.out | with_reducible exact H5.out | with_reducible exact H6.out | with_reducible exact H7.out | with_reducible exact H8.out | with_reducible exact H9.out | with_reducible exact H10.out | with_reducible exact H11.out | with_reducible exact H12.out | with_reducible exact H13.out | with_reducible exact H14.out | with_reducible exact H15.out | with_reducible exact H16.out) (by first | with_reducible exact H1.out | with_reducible exact H2.out | with_reducible exact H3.out | with_reducible exact H4.out | with_reducible exact H5.out | with_reducible exact H6.out | with_reducible exact H7.out | with_reducible exact H8.out | with_reducible exact H9.out | with_reducible exact H10.out | with_reducible exact H11.out | with_reducible exact H12.out | with_reducible exact H13.out | with_reducible exact H14.out | with_reducible exact H15.out | with_reducible exact H16.out)).mono ?_; rintro e w' ⟨rfl, rfl⟩) | (go_at_call 22; refine (times_any _ (by first | with_reducible exact H1.out | with_reducible exact H2.out | with_reducible exact H3.out | with_reducible exact H4.out | with_reducible exact H5.out | with_reducible exact H6.out | with_reducible exact H7.out | with_reducible exact H8.out | with_reducible exact H9.out | with_reducible exact H10.out | with_reducible exact H11.out | with_reducible exact H12.out | with_reducible exact H13.out | with_reducible exact H14.out | with_reducible exact H15.out | with_reducible exact H16.out) (by first | with_reducible exact H1.out | with_reducible exact H2.out | with_reducible exact H3.out | with_reducible exact H4.out | with_reducible exact H5.out | with_reducible exact H6.out | with_reducible exact H7.out | with_reducible exact H8.out | with_reducible exact H9.out | with_reducible exact H10.out | with_reducible exact H11.out | with_reducible exact H12.out | with_reducible exact H13.out | with_reducible exact H14.out | with_reducible exact H15.out | with_reducible exact H16.out)).mono ?_; rintro e w' ⟨rfl, rfl⟩))
  go_wp2_with (first | (go_at_call 18; refine (plus_any _ (by first | with_reducible exact H1.out | with_reducible exact H2.out | with_reducible exact H3.out | with_reducible exact H4.out | with_reducible exact H5.out | with_reducible exact H6.out | with_reducible exact H7.out | with_reducible exact H8.out | with_reducible exact H9.out | with_reducible exact H10.out | with_reducible exact H11.out | with_reducible exact H12.out | with_reducible exact H13.out | with_reducible exact H14.out | with_reducible exact H15.out | with_reducible exact H16.out) (by first | with_reducible exact H1.out | with_reducible exact H2.out | with_reducible exact H3.out | with_reducible exact H4.out | with_reducible exact H5.out | with_reducible exact H6.out | with_reducible exact H7.out | with_reducible exact H8.out | with_reducible exact H9.out | with_reducible exact H10.out | with_reducible exact H11.out | with_reducible exact H12.out | with_reducible exact H13.out | with_reducible exact H14.out | with_reducible exact H15.out | with_reducible exact H16.out)).mono ?_; rintro e w' ⟨rfl, rfl⟩) | (go_at_call 19; refine (less_any _ (by first | with_reducible exact H1.out | with_reducible exact H2.out | with_reducible exact H3.out | with_reducible exact H4.out | with_reducible exact H5.out | with_reducible exact H6.out | with_reducible exact H7.out | with_reducible exact H8.out | with_reducible exact H9.out | with_reducible exact H10.out | with_reducible exact H11.out | with_reducible exact H12.out | with_reducible exact H13.out | with_reducible exact H14.out | with_reducible exact H15.out | with_reducible exact H16.out) (by first | with_reducible exact H1.out | with_reducible exact H2.out | with_reducible exact H3.out | with_reducible exact H4.out | with_reducible exact H5.out | with_reducible exact H6.out | with_reducible exact H7.out | with_reducible exact H8.out | with_reducible exact H9.out | with_reducible exact H10.out | with_reducible exact H11.out | with_reducible exact H12.out | with_reducible exact H13.out | with_reducible exact H14.out | with_reducible exact H15.out | with_reducible exact H16.out)).mono ?_; rintro e w' ⟨rfl, rfl⟩) | (go_at_call 22; refine (times_any _ (by first | with_reducible exact H1.out | with_reducible exact H2.out | with_reducible exact H3.out | with_reducible exact H4.out | with_reducible exact H5.out | with_reducible exact H6.out | with_reducible exact H7.out | with_reducible exact H8.out | with_reducible exact H9.out | with_reducible exact H10.out | with_reducible exact H11.out | with_reducible exact H12.out | with_reducible exact H13.out | with_reducible exact H14.out | with_reducible exact H15.out | with_reducible exact H16.out) (by first | with_reducible exact H1.out | with_reducible exact H2.out | with_reducible exact H3.out | with_reducible exact H4.out | with_reducible exact H5.out | with_reducible exact H6.out | with_reducible exact H7.out | with_reducible exact H8.out | with_reducible exact H9.out | with_reducible exact H10.out | with_reducible exact H11.out | with_reducible exact H12.out | with_reducible exact H13.out | with_reducible exact H14.out | with_reducible exact H15.out | with_reducible exact H16.out)).mono ?_; rintro e w' ⟨rfl, rfl⟩) | (go_at_call 20; refine (minusI_any _ _ _).mono ?_; rintro e w' ⟨rfl, rfl⟩) | (go_at_call 21; refine (timesI_any _ _ _).mono ?_; rintro e w' ⟨rfl, rfl⟩))
  exact bodyPost_ret (v := .agg #[.complex .f64 yr yi, .complex .f64 zr zi, .complex .f64 vr vi]) (by simp [results, Tryd.results12, go_sem]) rfl ⟨rfl, (((Below.refl _ _).alloc (Nat.le_refl _) _).alloc (by simp) _).drew⟩

theorem four_any {ai ar bi br ci cr di dr pi pr qi qr si sr ui ur vi vr xi xr yi yr zi zr : Nat} (w : World) (h1 : floatBits .add .f64 ar cr = some pr) (h2 : floatBits .add .f64 ai ci = some pi) (h3 : floatBits .sub .f64 ar cr = some qr) (h4 : floatBits .sub .f64 ai ci = some qi) (h5 : floatBits .add .f64 br dr = some sr) (h6 : floatBits .add .f64 bi di = some si) (h7 : floatBits .sub .f64 br dr = some ur) (h8 : floatBits .sub .f64 bi di = some ui) (h9 : floatBits .add .f64 pr sr = some yr) (h10 : floatBits .add .f64 pi si = some yi) (h11 : floatBits .add .f64 qr ui = some zr) (h12 : floatBits .add .f64 qi (Op.negFloat .f64 ur) = some zi) (h13 : floatBits .sub .f64 pr sr = some vr) (h14 : floatBits .sub .f64 pi si = some vi) (h15 : floatBits .add .f64 qr (Op.negFloat .f64 ui) = some xr) (h16 : floatBits .add .f64 qi ur = some xi) :
    Calls Tryd.prog 10 #[.agg #[.complex .f64 ar ai, .complex .f64 br bi, .complex .f64 cr ci, .complex .f64 dr di]] w fun e w' => e = .returned (.agg #[.complex .f64 yr yi, .complex .f64 zr zi, .complex .f64 vr vi, .complex .f64 xr xi]) ∧ Below w.heap.size w w' := by
  have H1 := Lib.hid h1
  have H2 := Lib.hid h2
  have H3 := Lib.hid h3
  have H4 := Lib.hid h4
  have H5 := Lib.hid h5
  have H6 := Lib.hid h6
  have H7 := Lib.hid h7
  have H8 := Lib.hid h8
  have H9 := Lib.hid h9
  have H10 := Lib.hid h10
  have H11 := Lib.hid h11
  have H12 := Lib.hid h12
  have H13 := Lib.hid h13
  have H14 := Lib.hid h14
  have H15 := Lib.hid h15
  have H16 := Lib.hid h16
  clear h1 h2 h3 h4 h5 h6 h7 h8 h9 h10 h11 h12 h13 h14 h15 h16
  go_enter Tryd.func10, Tryd.ntmps10
  go_wp2_with fail
  go_region_held3 (fun w' => w'.cell? ⟨w.heap.size, 0, none⟩ = some (.complex .f64 ar ai) ∧ w'.cell? ⟨w.heap.size, 1, none⟩ = some (.complex .f64 br bi) ∧ w'.cell? ⟨w.heap.size, 2, none⟩ = some (.complex .f64 cr ci) ∧ w'.cell? ⟨w.heap.size, 3, none⟩ = some (.complex .f64 dr di)) (go_keep)
    (first | (go_at_call 18; refine (plus_any _ (by first | with_reducible exact H1.out | with_reducible exact H2.out | with_reducible exact H3.out | with_reducible exact H4.out | with_reducible exact H5.out | with_reducible exact H6.out | with_reducible exact H7.out | with_reducible exact H8.out | with_reducible exact H9.out | with_reducible exact H10.out | with_reducible exact H11.out | with_reducible exact H12.out | with_reducible exact H13.out | with_reducible exact H14.out | with_reducible exact H15.out | with_reducible exact H16.out) (by first | with_reducible exact H1.out | with_reducible exact H2.out | with_reducible exact H3.out | with_reducible exact H4.out | with_reducible exact H5.out | with_reducible exact H6.out | with_reducible exact H7.out | with_reducible exact H8.out | with_reducible exact H9.out | with_reducible exact H10.out | with_reducible exact H11.out | with_reducible exact H12.out | with_reducible exact H13.out | with_reducible exact H14.out | with_reducible exact H15.out | with_reducible exact H16.out)).mono ?_; rintro e w' ⟨rfl, rfl⟩) | (go_at_call 19; refine (less_any _ (by first | with_reducible exact H1.out | with_reducible exact H2.out | with_reducible exact H3.out | with_reducible exact H4.out | with_reducible exact H5.out | with_reducible exact H6.out | with_reducible exact H7.out | with_reducible exact H8.out | with_reducible exact H9.out | with_reducible exact H10.out | with_reducible exact H11.out | with_reducible exact H12.out | with_reducible exact H13.out | with_reducible exact H14.out | with_reducible exact H15.out | with_reducible exact H16.out) (by first | with_reducible exact H1.out | with_reducible exact H2.out | with_reducible exact H3.out | with_reducible exact H4.out | with_reducible exact H5.out | with_reducible exact H6.out | with_reducible exact H7.out | with_reducible exact H8.out | with_reducible exact H9.out | with_reducible exact H10.out | with_reducible exact H11.out | with_reducible exact H12.out | with_reducible exact H13.out | with_reducible exact H14.out | with_reducible exact H15.out | with_reducible exact H16.out)).mono ?_; rintro e w' ⟨rfl, rfl⟩))
  go_wp2_with fail
  go_region_held3 (fun w' => w'.cell? ⟨w.heap.size, 0, none⟩ = some (.complex .f64 ar ai) ∧ w'.cell? ⟨w.heap.size, 1, none⟩ = some (.complex .f64 br bi) ∧ w'.cell? ⟨w.heap.size, 2, none⟩ = some (.complex .f64 cr ci) ∧ w'.cell? ⟨w.heap.size, 3, none⟩ = some (.complex .f64 dr di)) (go_keep)
    (first | (go_at_call 18; refine (plus_any _ (by first | with_reducible exact H1.out | with_reducible exact H2.out | with_reducible exact H3.out | with_reducible exact H4.out | with_reducible exact H5.out | with_reducible exact H6.out | with_reducible exact H7.out | with_reducible exact H8.out | with_reducible exact H9.out | with_reducible exact H10.out | with_reducible exact H11.out | with_reducible exact H12.out | with_reducible exact H13.out | with_reducible exact H14.out | with_reducible exact H15.out | with_reducible exact H16.out) (by first | with_reducible exact H1.out | with_reducible exact H2.out | with_reducible exact H3.out | with_reducible exact H4.out | with_reducible exact H5.out | with_reducible exact H6.out | with_reducible exact H7.out | with_reducible exact H8.out | with_reducible exact H9.out | with_reducible exact H10.out | with_reducible exact H11.out | with_reducible exact H12.out | with_reducible exact H13.out | with_reducible exact H14.out | with_reducible exact H15.out | with_reducible exact H16.out)).mono ?_; rintro e w' ⟨rfl, rfl⟩) | (go_at_call 19; refine (less_any _ (by first | with_reducible exact H1.out | with_reducible exact H2.out | with_reducible exact H3.out | with_reducible exact H4.out | with_reducible exact H5.out | with_reducible exact H6.out | with_reducible exact H7.out | with_reducible exact H8.out | with_reducible exact H9.out | with_reducible exact H10.out | with_reducible exact H11.out | with_reducible exact H12.out | with_reducible exact H13.out | with_reducible exact H14.out | with_reducible exact H15.out | with_reducible exact H16.out) (by first | with_reducible exact H1.out | with_reducible exact H2.out | with_reducible exact H3.out | with_reducible exact H4.out | with_reducible exact H5.out | with_reducible exact H6.out | with_reducible exact H7.out | with_reducible exact H8.out | with_reducible exact H9.out | with_reducible exact H10.out | with_reducible exact H11.out | with_reducible exact H12.out | with_reducible exact H13.out | with_reducible exact H14.out | with_reducible exact H15.out | with_reducible exact H16.out)).mono ?_; rintro e w' ⟨rfl, rfl⟩))
  go_wp2_with (first | (go_at_call 18; refine (plus_any _ (by first | with_reducible exact H1.out | with_reducible exact H2.out | with_reducible exact H3.out | with_reducible exact H4.out | with_reducible exact H5.out | with_reducible exact H6.out | with_reducible exact H7.out | with_reducible exact H8.out | with_reducible exact H9.out | with_reducible exact H10.out | with_reducible exact H11.out | with_reducible exact H12.out | with_reducible exact H13.out | with_reducible exact H14.out | with_reducible exact H15.out | with_reducible exact H16.out) (by first | with_reducible exact H1.out | with_reducible exact H2.out | with_reducible exact H3.out | with_reducible exact H4.out | with_reducible exact H5.out | with_reducible exact H6.out | with_reducible exact H7.out | with_reducible exact H8.out | with_reducible exact H9.out | with_reducible exact H10.out | with_reducible exact H11.out | with_reducible exact H12.out | with_reducible exact H13.out | with_reducible exact H14.out | with_reducible exact H15.out | with_reducible exact H16.out)).mono ?_; rintro e w' ⟨rfl, rfl⟩) | (go_at_call 19; refine (less_any _ (by first | with_reducible exact H1.out | with_reducible exact H2.out | with_reducible exact H3.out | with_reducible exact H4.out | with_reducible exact H5.out | with_reducible exact H6.out | with_reducible exact H7.out | with_reducible exact H8.out | with_reducible exact H9.out | with_reducible exact H10.out | with_reducible exact H11.out | with_reducible exact H12.out | with_reducible exact H13.out | with_reducible exact H14.out | with_reducible exact H15.out | with_reducible exact H16.out) (by first | with_reducible exact H1.out | with_reducible exact H2.out | with_reducible exact H3.out | with_reducible exact H4.out | with_reducible exact H5.out | with_reducible exact H6.out | with_reducible exact H7.out | with_reducible exact H8.out | with_reducible exact H9.out | with_reducible exact H10.out | with_reducible exact H11.out | with_reducible exact H12.out | with_reducible exact H13.out | with_reducible exact H14.out | with_reducible exact H15.out | with_reducible exact H16.out)).mono ?_; rintro e w' ⟨rfl, rfl⟩) | (go_at_call 20; refine (minusI_any _ _ _).mono ?_; rintro e w' ⟨rfl, rfl⟩) | (go_at_call 21; refine (timesI_any _ _ _).mono ?_; rintro e w' ⟨rfl, rfl⟩))
  exact bodyPost_ret (v := .agg #[.complex .f64 yr yi, .complex .f64 zr zi, .complex .f64 vr vi, .complex .f64 xr xi]) (by simp [results, Tryd.results10, go_sem]) rfl ⟨rfl, (((Below.refl _ _).alloc (Nat.le_refl _) _).alloc (by simp) _).drew.drew⟩

end Go.Proofs.YtfecfdopdkgceaaDoor
