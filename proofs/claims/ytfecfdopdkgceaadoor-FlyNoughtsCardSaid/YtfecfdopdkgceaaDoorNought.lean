/- The butterflies of noughts (of either sign) answer noughts: Two, Three, Four, Five and Fly, by contract. -/
import Derived.Test.YtfecfdopdkgceaaDoorFixed
namespace Go.Proofs.YtfecfdopdkgceaaDoor
open Go.RowKit Fl

/-- A nought's bits. -/
def N (x : Nat) : Prop := x = 0 ∨ x = 9223372036854775808

theorem N.add {a c : Nat} (ha : N a) (hc : N c) : ∃ r, floatBits .add .f64 a c = some r ∧ N r := by
  rcases ha with rfl | rfl <;> rcases hc with rfl | rfl
  · exact ⟨0, by decide +kernel, .inl rfl⟩
  · exact ⟨0, by decide +kernel, .inl rfl⟩
  · exact ⟨0, by decide +kernel, .inl rfl⟩
  · exact ⟨9223372036854775808, by decide +kernel, .inr rfl⟩
theorem N.sub {a c : Nat} (ha : N a) (hc : N c) : ∃ r, floatBits .sub .f64 a c = some r ∧ N r := by
  rcases ha with rfl | rfl <;> rcases hc with rfl | rfl
  · exact ⟨0, by decide +kernel, .inl rfl⟩
  · exact ⟨0, by decide +kernel, .inl rfl⟩
  · exact ⟨9223372036854775808, by decide +kernel, .inr rfl⟩
  · exact ⟨0, by decide +kernel, .inl rfl⟩
theorem N.neg {a : Nat} (ha : N a) : N (Op.negFloat .f64 a) := by
  rcases ha with rfl | rfl
  · exact .inr (by decide +kernel)
  · exact .inl (by decide +kernel)
theorem N.order {a : Nat} (ha : N a) : FloatKind.f64.format.order a 0 = some .eq := by
  rcases ha with rfl | rfl <;> decide +kernel

/-- A factor of which noughts stay noughts. -/
def F (k : Nat) : Prop := ∀ a, N a → ∃ r, floatBits .mul .f64 a k = some r ∧ N r
theorem F.sin3 : F 4605975682916830378 := by
  rintro a (rfl | rfl)
  · exact ⟨0, by decide +kernel, .inl rfl⟩
  · exact ⟨9223372036854775808, by decide +kernel, .inr rfl⟩
theorem F.half : F 4602678819172646912 := by
  rintro a (rfl | rfl)
  · exact ⟨0, by decide +kernel, .inl rfl⟩
  · exact ⟨9223372036854775808, by decide +kernel, .inr rfl⟩
theorem F.cos5 : F 4599238375200778576 := by
  rintro a (rfl | rfl)
  · exact ⟨0, by decide +kernel, .inl rfl⟩
  · exact ⟨9223372036854775808, by decide +kernel, .inr rfl⟩
theorem F.cos25 : F 13828834233668859048 := by
  rintro a (rfl | rfl)
  · exact ⟨9223372036854775808, by decide +kernel, .inr rfl⟩
  · exact ⟨0, by decide +kernel, .inl rfl⟩
theorem F.sin5 : F 4606741575090066687 := by
  rintro a (rfl | rfl)
  · exact ⟨0, by decide +kernel, .inl rfl⟩
  · exact ⟨9223372036854775808, by decide +kernel, .inr rfl⟩
theorem F.sin25 : F 4603469518431672926 := by
  rintro a (rfl | rfl)
  · exact ⟨0, by decide +kernel, .inl rfl⟩
  · exact ⟨9223372036854775808, by decide +kernel, .inr rfl⟩

/-- One complex number, a nought in both parts. -/
def One (w : World) (e : Ending) (w' : World) : Prop := ∃ x y, e = .returned (.complex .f64 x y) ∧ N x ∧ N y ∧ w' = w

theorem plus_n {a b c d : Nat} (w : World) (ha : N a) (hb : N b) (hc : N c) (hd : N d) : Calls Tryd.prog 18 #[.complex .f64 a b, .complex .f64 c d] w (One w) := by
  obtain ⟨x, h1, hx⟩ := ha.add hc
  obtain ⟨y, h2, hy⟩ := hb.add hd
  exact (plus_any w h1 h2).mono fun e w' ⟨h, h'⟩ => ⟨x, y, h, hx, hy, h'⟩
theorem less_n {a b c d : Nat} (w : World) (ha : N a) (hb : N b) (hc : N c) (hd : N d) : Calls Tryd.prog 19 #[.complex .f64 a b, .complex .f64 c d] w (One w) := by
  obtain ⟨x, h1, hx⟩ := ha.sub hc
  obtain ⟨y, h2, hy⟩ := hb.sub hd
  exact (less_any w h1 h2).mono fun e w' ⟨h, h'⟩ => ⟨x, y, h, hx, hy, h'⟩
theorem times_n {a b k : Nat} (w : World) (hk : F k) (ha : N a) (hb : N b) : Calls Tryd.prog 22 #[.complex .f64 a b, .float .f64 k] w (One w) := by
  obtain ⟨x, h1, hx⟩ := hk a ha
  obtain ⟨y, h2, hy⟩ := hk b hb
  exact (times_any w h1 h2).mono fun e w' ⟨h, h'⟩ => ⟨x, y, h, hx, hy, h'⟩
theorem minusI_n {a b : Nat} (w : World) (ha : N a) (hb : N b) : Calls Tryd.prog 20 #[.complex .f64 a b] w (One w) :=
  (minusI_any a b w).mono fun _ _ ⟨h, h'⟩ => ⟨_, _, h, hb, ha.neg, h'⟩
theorem timesI_n {a b : Nat} (w : World) (ha : N a) (hb : N b) : Calls Tryd.prog 21 #[.complex .f64 a b] w (One w) :=
  (timesI_any a b w).mono fun _ _ ⟨h, h'⟩ => ⟨_, _, h, hb.neg, ha, h'⟩

def Out2 (w : World) (e : Ending) (w' : World) : Prop := ∃ a0 b0 a1 b1, e = .returned (.agg #[.complex .f64 a0 b0, .complex .f64 a1 b1]) ∧ N a0 ∧ N b0 ∧ N a1 ∧ N b1 ∧ Below w.heap.size w w'
def Out3 (w : World) (e : Ending) (w' : World) : Prop := ∃ a0 b0 a1 b1 a2 b2, e = .returned (.agg #[.complex .f64 a0 b0, .complex .f64 a1 b1, .complex .f64 a2 b2]) ∧ N a0 ∧ N b0 ∧ N a1 ∧ N b1 ∧ N a2 ∧ N b2 ∧ Below w.heap.size w w'
def Out4 (w : World) (e : Ending) (w' : World) : Prop := ∃ a0 b0 a1 b1 a2 b2 a3 b3, e = .returned (.agg #[.complex .f64 a0 b0, .complex .f64 a1 b1, .complex .f64 a2 b2, .complex .f64 a3 b3]) ∧ N a0 ∧ N b0 ∧ N a1 ∧ N b1 ∧ N a2 ∧ N b2 ∧ N a3 ∧ N b3 ∧ Below w.heap.size w w'
def Out5 (w : World) (e : Ending) (w' : World) : Prop := ∃ a0 b0 a1 b1 a2 b2 a3 b3 a4 b4, e = .returned (.agg #[.complex .f64 a0 b0, .complex .f64 a1 b1, .complex .f64 a2 b2, .complex .f64 a3 b3, .complex .f64 a4 b4]) ∧ N a0 ∧ N b0 ∧ N a1 ∧ N b1 ∧ N a2 ∧ N b2 ∧ N a3 ∧ N b3 ∧ N a4 ∧ N b4 ∧ Below w.heap.size w w'

theorem two_n {a0 b0 a1 b1 : Nat} (w : World) (h0 : N a0) (k0 : N b0) (h1 : N a1) (k1 : N b1) : Calls Tryd.prog 9 #[.agg #[.complex .f64 a0 b0, .complex .f64 a1 b1]] w (Out2 w) := by
  obtain ⟨p, h2, hp⟩ := h0.add h1
  obtain ⟨q, h3, hq⟩ := k0.add k1
  obtain ⟨r, h4, hr⟩ := h0.sub h1
  obtain ⟨s, h5, hs⟩ := k0.sub k1
  exact (two_any w h2 h3 h4 h5).mono fun e w' ⟨h, h'⟩ => ⟨_, _, _, _, h, hp, hq, hr, hs, h'⟩

theorem three_n {a0 b0 a1 b1 a2 b2 : Nat} (w : World) (h0 : N a0) (k0 : N b0) (h1 : N a1) (k1 : N b1) (h2 : N a2) (k2 : N b2) : Calls Tryd.prog 12 #[.agg #[.complex .f64 a0 b0, .complex .f64 a1 b1, .complex .f64 a2 b2]] w (Out3 w) := by
  obtain ⟨tr, e1, ntr⟩ := h1.add h2
  obtain ⟨ti, e2, nti⟩ := k1.add k2
  obtain ⟨lr, e3, nlr⟩ := h1.sub h2
  obtain ⟨li, e4, nli⟩ := k1.sub k2
  obtain ⟨ur, e5, nur⟩ := F.sin3 lr nlr
  obtain ⟨ui, e6, nui⟩ := F.sin3 li nli
  obtain ⟨hr, e7, nhr⟩ := F.half tr ntr
  obtain ⟨hi, e8, nhi⟩ := F.half ti nti
  obtain ⟨mr, e9, nmr⟩ := h0.sub nhr
  obtain ⟨mi, e10, nmi⟩ := k0.sub nhi
  obtain ⟨_, e11, n11⟩ := h0.add ntr
  obtain ⟨_, e12, n12⟩ := k0.add nti
  obtain ⟨_, e13, n13⟩ := nmr.add nui
  obtain ⟨_, e14, n14⟩ := nmi.add nur.neg
  obtain ⟨_, e15, n15⟩ := nmr.add nui.neg
  obtain ⟨_, e16, n16⟩ := nmi.add nur
  exact (three_any w e1 e2 e3 e4 e5 e6 e7 e8 e9 e10 e11 e12 e13 e14 e15 e16).mono fun e w' ⟨h, h'⟩ => ⟨_, _, _, _, _, _, h, n11, n12, n13, n14, n15, n16, h'⟩

theorem four_n {a0 b0 a1 b1 a2 b2 a3 b3 : Nat} (w : World) (h0 : N a0) (k0 : N b0) (h1 : N a1) (k1 : N b1) (h2 : N a2) (k2 : N b2) (h3 : N a3) (k3 : N b3) : Calls Tryd.prog 10 #[.agg #[.complex .f64 a0 b0, .complex .f64 a1 b1, .complex .f64 a2 b2, .complex .f64 a3 b3]] w (Out4 w) := by
  obtain ⟨_, e1, npr⟩ := h0.add h2
  obtain ⟨_, e2, npi⟩ := k0.add k2
  obtain ⟨_, e3, nqr⟩ := h0.sub h2
  obtain ⟨_, e4, nqi⟩ := k0.sub k2
  obtain ⟨_, e5, nsr⟩ := h1.add h3
  obtain ⟨_, e6, nsi⟩ := k1.add k3
  obtain ⟨_, e7, nur⟩ := h1.sub h3
  obtain ⟨_, e8, nui⟩ := k1.sub k3
  obtain ⟨_, e9, n9⟩ := npr.add nsr
  obtain ⟨_, e10, n10⟩ := npi.add nsi
  obtain ⟨_, e11, n11⟩ := nqr.add nui
  obtain ⟨_, e12, n12⟩ := nqi.add nur.neg
  obtain ⟨_, e13, n13⟩ := npr.sub nsr
  obtain ⟨_, e14, n14⟩ := npi.sub nsi
  obtain ⟨_, e15, n15⟩ := nqr.add nui.neg
  obtain ⟨_, e16, n16⟩ := nqi.add nur
  exact (four_any w e1 e2 e3 e4 e5 e6 e7 e8 e9 e10 e11 e12 e13 e14 e15 e16).mono fun e w' ⟨h, h'⟩ => ⟨_, _, _, _, _, _, _, _, h, n9, n10, n11, n12, n13, n14, n15, n16, h'⟩

set_option maxRecDepth 100000 in
theorem five_n {a0 b0 a1 b1 a2 b2 a3 b3 a4 b4 : Nat} (w : World) (h0 : N a0) (k0 : N b0) (h1 : N a1) (k1 : N b1) (h2 : N a2) (k2 : N b2) (h3 : N a3) (k3 : N b3) (h4 : N a4) (k4 : N b4) :
    Calls Tryd.prog 17 #[.agg #[.complex .f64 a0 b0, .complex .f64 a1 b1, .complex .f64 a2 b2, .complex .f64 a3 b3, .complex .f64 a4 b4]] w (Out5 w) := by
  go_enter Tryd.func17, Tryd.ntmps17
  go_wp2_with fail
  go_region_held3 (fun w' => w'.cell? ⟨w.heap.size, 1, none⟩ = some (.complex .f64 a1 b1) ∧ w'.cell? ⟨w.heap.size, 4, none⟩ = some (.complex .f64 a4 b4)) (go_keep)
    (first | (go_at_call 18; refine (plus_n _ (by assumption) (by assumption) (by assumption) (by assumption)).mono ?_; rintro e w' ⟨x1, y1, rfl, n1, m1, rfl⟩) | (go_at_call 19; refine (less_n _ (by assumption) (by assumption) (by assumption) (by assumption)).mono ?_; rintro e w' ⟨x2, y2, rfl, n2, m2, rfl⟩))
  go_wp2_with fail
  go_region_held3 (fun w' => w'.cell? ⟨w.heap.size, 2, none⟩ = some (.complex .f64 a2 b2) ∧ w'.cell? ⟨w.heap.size, 3, none⟩ = some (.complex .f64 a3 b3)) (go_keep)
    (first | (go_at_call 18; refine (plus_n _ (by assumption) (by assumption) (by assumption) (by assumption)).mono ?_; rintro e w' ⟨x3, y3, rfl, n3, m3, rfl⟩) | (go_at_call 19; refine (less_n _ (by assumption) (by assumption) (by assumption) (by assumption)).mono ?_; rintro e w' ⟨x4, y4, rfl, n4, m4, rfl⟩))
  go_wp2_with fail
  have f1 := F.cos5
  have f2 := F.cos25
  have f3 := F.sin5
  have f4 := F.sin25
  go_region_held3 (fun w' => w'.cell? ⟨w.heap.size, 0, none⟩ = some (.complex .f64 a0 b0)) (go_keep)
    (first | (go_at_call 18; refine (plus_n _ (by assumption) (by assumption) (by assumption) (by assumption)).mono ?_; rintro e w' ⟨x5, y5, rfl, n5, m5, rfl⟩) | (go_at_call 22; refine (times_n _ (by assumption) (by assumption) (by assumption)).mono ?_; rintro e w' ⟨x6, y6, rfl, n6, m6, rfl⟩))
  go_wp2_with fail
  go_region_held3 (fun w' => w'.cell? ⟨w.heap.size, 0, none⟩ = some (.complex .f64 a0 b0)) (go_keep)
    (first | (go_at_call 18; refine (plus_n _ (by assumption) (by assumption) (by assumption) (by assumption)).mono ?_; rintro e w' ⟨x7, y7, rfl, n7, m7, rfl⟩) | (go_at_call 22; refine (times_n _ (by assumption) (by assumption) (by assumption)).mono ?_; rintro e w' ⟨x8, y8, rfl, n8, m8, rfl⟩))
  go_wp2_with (first | (go_at_call 18; refine (plus_n _ (by assumption) (by assumption) (by assumption) (by assumption)).mono ?_; rintro e w' ⟨x9, y9, rfl, n9, m9, rfl⟩) | (go_at_call 19; refine (less_n _ (by assumption) (by assumption) (by assumption) (by assumption)).mono ?_; rintro e w' ⟨x10, y10, rfl, n10, m10, rfl⟩) | (go_at_call 22; refine (times_n _ (by assumption) (by assumption) (by assumption)).mono ?_; rintro e w' ⟨x11, y11, rfl, n11, m11, rfl⟩))
  go_region_held3 (fun w' => w'.cell? ⟨w.heap.size, 0, none⟩ = some (.complex .f64 a0 b0)) (go_keep)
    (first | (go_at_call 18; refine (plus_n _ (by assumption) (by assumption) (by assumption) (by assumption)).mono ?_; rintro e w' ⟨x12, y12, rfl, n12, m12, rfl⟩) | (go_at_call 20; refine (minusI_n _ (by assumption) (by assumption)).mono ?_; rintro e w' ⟨x13, y13, rfl, n13, m13, rfl⟩) | (go_at_call 21; refine (timesI_n _ (by assumption) (by assumption)).mono ?_; rintro e w' ⟨x14, y14, rfl, n14, m14, rfl⟩))
  go_wp2_with fail
  refine bodyPost_ret (v := ?v) ?h1 rfl ?h2
  case h1 => simp [results, Tryd.results17, go_sem]; rfl
  case h2 =>
    refine ⟨_, _, _, _, _, _, _, _, _, _, rfl, ?_, ?_, ?_, ?_, ?_, ?_, ?_, ?_, ?_, ?_, ?_⟩
    all_goals first | assumption | skip
    iterate 5 refine Below.drew ?_
    exact ((Below.refl _ _).alloc (Nat.le_refl _) _).alloc (by simp) _

end Go.Proofs.YtfecfdopdkgceaaDoor
