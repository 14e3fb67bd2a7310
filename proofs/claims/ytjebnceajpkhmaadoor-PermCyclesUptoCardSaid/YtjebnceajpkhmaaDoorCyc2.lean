/- What perm.cycles and the law's own Cycles answer. -/
import Derived.Test.YtjebnceajpkhmaaDoorCyc
namespace Go.Proofs.YtjebnceajpkhmaaDoor
open Go.RowKit

theorem info22i : (Tryd.prog.info? 22).map (fun i => (i.zero, i.size, i.bytes)) = some (some (.slice none 0 0), 1, 24) := by kernel_rfl

theorem Seen.alloc {n X : Nat} {s : Int → Bool} {W0 w : World} (h : Seen n X s W0 w) (o : Obj) : Seen n X s W0 (w.alloc o) :=
  ⟨fun x hx => by
    have h1 := (h.cell x hx).1
    refine ⟨(World.cell?_alloc_lt _ _ _ (cell_lt h1)).trans h1, ?_⟩
    exact (Below.frozen ((Below.refl w.heap.size w).alloc (Nat.le_refl _) o) (cell_lt h1)).trans (h.cell x hx).2, by have := h.lt; simp; omega, h.lo, h.bel.alloc h.bel.size _⟩
theorem Seen.grown {n X : Nat} {s : Int → Bool} {W0 w w' : World} {row : Option Nat} (h : Seen n X s W0 w) (hg : w.grownBy w' row) (hr : ∀ b, row = some b → X ≠ b ∧ W0.heap.size ≤ b) : Seen n X s W0 w' := by
  have hne : some X ≠ row := fun e => (hr X e.symm).1 rfl
  refine ⟨fun x hx => ?_, Nat.lt_of_lt_of_le h.lt hg.size, h.lo, h.bel.grown hg h.bel.size fun b hb => (hr b hb).2⟩
  have hb := hg.block X h.lt hne
  exact ⟨(World.cell?_of_block (a := ⟨X, x, none⟩) hb).trans (h.cell x hx).1, (World.frozen?_of_block (a := ⟨X, x, none⟩) hb).trans (h.cell x hx).2⟩

/-- Block X is a list of bools. -/
def Kind (X : Nat) (w : World) : Prop := ∃ c, w.heap[X]? = some (.cells c 4 (0, 0))
theorem Kind.alloc {X : Nat} {w : World} (h : Kind X w) (o : Obj) : Kind X (w.alloc o) := by
  obtain ⟨c, hc⟩ := h
  have : X < w.heap.size := by
    rcases Nat.lt_or_ge X w.heap.size with h | h
    · exact h
    · rw [Array.getElem?_eq_none h] at hc; cases hc
  exact ⟨c, (Below.heap_alloc w o X this).trans hc⟩
theorem Kind.set {X y : Nat} {w : World} (h : Kind X w) (v : Value) : Kind X (w.setCell ⟨X, y, none⟩ v) := by
  obtain ⟨c, hc⟩ := h
  exact ⟨_, heap_setCell_same w X y c 4 v hc⟩
theorem Kind.grown {X : Nat} {w w' : World} {row : Option Nat} (h : Kind X w) (hg : w.grownBy w' row) (hr : ∀ b, row = some b → X ≠ b) : Kind X w' := by
  obtain ⟨c, hc⟩ := h
  have : X < w.heap.size := by
    rcases Nat.lt_or_ge X w.heap.size with h | h
    · exact h
    · rw [Array.getElem?_eq_none h] at hc; cases hc
  exact ⟨c, (hg.block X this fun e => hr X e.symm rfl).trans hc⟩
theorem Kind.ne {X : Nat} {w : World} (h : Kind X w) {B : Nat} {e : TypeId} {v : Value} {k : Nat} {xs : List Value} (hr : w.ownsRow B e 1 v k xs) (he : e ≠ 4) : ∀ b, v.ownBlock = some b → X ≠ b := by
  rintro b hb rfl
  obtain ⟨c, hc⟩ := h
  rcases hr.2 with ⟨rfl, -⟩ | ⟨g, cap, cur, rfl, -, hg, -⟩
  · cases hb
  · simp only [Value.ownBlock, Option.some.injEq] at hb
    subst hb
    rw [hc] at hg
    simp at hg
    exact he hg.2.symm

/-- What the outer loop has after i places. -/
structure Cy (n X i : Nat) (f : Nat → Int) (W0 w : World) (v : Value) : Prop where
  seen : Seen n X (out f i).s W0 w
  ll : LL W0.heap.size w.heap.size w v (out f i).m (out f i).ln (fun c => it f ((out f i).hd c))
  kind : Kind X w
/-- What the inner loop has after k steps from place i on; it began with B blocks. -/
structure Ci (n X i k B : Nat) (f : Nat → Int) (W0 w : World) (v one : Value) : Prop where
  seen : Seen n X (mks f (out f i).s i k) W0 w
  ll : LL W0.heap.size B w v (out f i).m (out f i).ln (fun c => it f ((out f i).hd c))
  kind : Kind X w
  one : Told B w one k (it f i)
  free : ∀ j, j < k → mks f (out f i).s i j (it f i j) = false
  few : cnt (mks f (out f i).s i k) n + k ≤ n
  size : B ≤ w.heap.size
  lt : X < B

theorem Ci.step {n X i k B y : Nat} {f : Nat → Int} {W0 w w3 : World} {v one v3 : Value} (h : Ci n X i k B f W0 w v one) (hy : y < n) (hx : it f i k = y) (hf : mks f (out f i).s i k y = false) {o : Obj}
    (hown : w3.ownsRow B 3 1 v3 (k + 1) (ints k (it f i) ++ [.int .i64 (y : Int)])) (hg : ((w.setCell ⟨X, y, none⟩ (.bool true)).alloc o).grownBy w3 one.ownBlock) : Ci n X i (k + 1) B f W0 w3 v v3 := by
  have hrow : ∀ b, one.ownBlock = some b → B ≤ b := fun b hb => (h.one.lt b hb).1
  have hmk : ∀ z : Nat, mks f (out f i).s i (k + 1) (z : Int) = if z = y then true else mks f (out f i).s i k z := fun z => by
    rw [mks, hx]
    by_cases e : z = y
    · subst e; simp
    · have e' : ¬ (z : Int) = (y : Int) := by omega
      simp [e, e']
  refine ⟨?_, ?_, ?_, ?_, fun j hj => ?_, ?_, ?_, h.lt⟩
  · exact ((h.seen.step hy hmk).alloc o).grown hg fun b hb => by have := hrow b hb; have := h.lt; have := h.seen.lo; omega
  · exact ((h.ll.set (p := ⟨X, y, none⟩) h.kind _).alloc o).grown hg hrow
  · exact ((h.kind.set _).alloc o).grown hg fun b hb => by have := hrow b hb; have := h.lt; omega
  · unfold Told; rw [ints_succ k _ _ hx]; exact hown
  · rcases Nat.lt_succ_iff_lt_or_eq.1 hj with h1 | rfl
    · exact h.free j h1
    · rw [hx]; exact hf
  · have := cnt_mark hmk hf n hy
    have := h.few
    omega
  · have := hg.size
    have := h.size
    simp at *
    omega
theorem Ci.room {n X i k B y : Nat} {f : Nat → Int} {W0 w : World} {v one : Value} (h : Ci n X i k B f W0 w v one) (hy : y < n) (hf : mks f (out f i).s i k y = false) : k + 1 ≤ n := by
  have hmk : ∀ z : Nat, (fun t : Int => if t = y then true else mks f (out f i).s i k t) (z : Int) = if z = y then true else mks f (out f i).s i k z := fun z => by
    by_cases e : z = y
    · subst e; simp
    · have e' : ¬ (z : Int) = (y : Int) := by omega
      simp [e, e']
  have := cnt_mark (t := fun t : Int => if t = y then true else mks f (out f i).s i k t) hmk hf n hy
  have := h.few
  omega
/-- The inner loop's end, and one list more. -/
theorem Ci.done {n X i k B : Nat} {f : Nat → Int} {W0 w w4 : World} {v one v4 : Value} {xs : List Value} (h : Ci n X i k B f W0 w v one) (h0 : (out f i).s i = false) (hs : mks f (out f i).s i k (it f i k) = true)
    (h1 : (w.alloc (.cells #[one] 22)).ownsRow W0.heap.size 22 1 v (out f i).m xs) (h3 : ∀ c, c < (out f i).m → ∃ vc, xs[c]? = some vc ∧ Told W0.heap.size (w.alloc (.cells #[one] 22)) vc ((out f i).ln c) (it f ((out f i).hd c)))
    (h4 : Apart xs) (h5 : ∀ (c : Nat) (vc : Value), xs[c]? = some vc → ∀ b, vc.ownBlock = some b → b < B) (hown : w4.ownsRow W0.heap.size 22 1 v4 ((out f i).m + 1) (xs ++ [one])) (hg : (w.alloc (.cells #[one] 22)).grownBy w4 v.ownBlock) : Cy n X (i + 1) f W0 w4 v4 := by
  have ho : Told W0.heap.size (w.alloc (.cells #[one] 22)) one k (it f i) := own_mono (World.ownsRow.alloc h.one _) (by have := h.lt; have := h.seen.lo; omega)
  have hne := (h.kind.alloc (.cells #[one] 22)).ne h1 (by decide)
  have hrow : ∀ b, v.ownBlock = some b → X ≠ b ∧ W0.heap.size ≤ b := fun b hb => ⟨hne b hb, (World.ownsRow.lt h1 b hb).1⟩
  refine ⟨?_, ?_, (h.kind.alloc _).grown hg hne⟩
  · rw [out_new h0 ⟨h.free, hs⟩]
    exact (h.seen.alloc _).grown hg hrow
  · rw [out_new h0 ⟨h.free, hs⟩]
    refine (LL.push h1 h3 ho h4 h5 (fun b hb => (h.one.lt b hb).1) hown hg (Nat.le_refl _)).eqs (fun c _ => rfl) fun c _ => ?_
    dsimp only
    split <;> rfl
theorem Ci.xs {n X i k B : Nat} {f : Nat → Int} {W0 w : World} {v one : Value} (h : Ci n X i k B f W0 w v one) :
    ∃ xs, (w.alloc (.cells #[one] 22)).ownsRow W0.heap.size 22 1 v (out f i).m xs ∧ (∀ c, c < (out f i).m → ∃ vc, xs[c]? = some vc ∧ Told W0.heap.size (w.alloc (.cells #[one] 22)) vc ((out f i).ln c) (it f ((out f i).hd c))) ∧ Apart xs ∧ ∀ (c : Nat) (vc : Value), xs[c]? = some vc → ∀ b, vc.ownBlock = some b → b < B := by
  obtain ⟨xs, a, -, b, d⟩ := h.ll.alloc (.cells #[one] 22)
  refine ⟨xs, a, fun c hc => by obtain ⟨vc, p, q, -⟩ := b c hc; exact ⟨vc, p, q⟩, d, fun c vc hc => ?_⟩
  have hlt : c < (out f i).m := by
    have := (List.getElem?_eq_some_iff.1 hc).1
    have := a.1
    omega
  obtain ⟨vc', p, -, r⟩ := b c hlt
  rw [hc] at p
  cases p
  exact r
theorem Cy.first {n X i : Nat} {f : Nat → Int} {W0 w : World} {v one : Value} (h : Cy n X i f W0 w v) (ho : Told w.heap.size w one 0 (it f i)) : Ci n X i 0 w.heap.size f W0 w v one :=
  ⟨h.seen, h.ll, h.kind, ho, fun j hj => by omega, by have := cnt_le (mks f (out f i).s i 0) n; omega, Nat.le_refl _, h.seen.lt⟩
theorem Cy.skip {n X i : Nat} {f : Nat → Int} {W0 w : World} {v : Value} (h : Cy n X i f W0 w v) (hs : (out f i).s i = true) : Cy n X (i + 1) f W0 w v := by
  obtain ⟨a, b, c⟩ := h
  refine ⟨?_, ?_, c⟩
  · rw [out_seen hs]; exact a
  · rw [out_seen hs]; exact b
theorem one_new {W : World} {B : Nat} (h : W.heap.size = B) (v : Value) (t : TypeId) : ∀ j u, [v][j]? = some u → (W.alloc (.cells #[v] t)).cell? ((⟨B, 0, none⟩ : Addr).add j) = some u := by
  subst h
  exact cell_one_new W v t
theorem slice_cell {one : Value} {B : Nat} {w : World} {k : Nat} {g : Nat → Int} (h : Told B w one k g) : ∀ u ∈ [one], u.oneCell' = true := by
  intro u hu
  simp at hu
  subst hu
  obtain ⟨ao, c, rfl, -⟩ := h.row
  rfl
theorem Told.len {one : Value} {B : Nat} {w : World} {k : Nat} {g : Nat → Int} (h : Told B w one k g) : lnV one = k := by
  obtain ⟨ao, c, rfl, -⟩ := h.row
  rfl


set_option maxRecDepth 100000 in
set_option maxHeartbeats 1000000 in
theorem cycles_any (ao : Option Addr) (n c : Nat) (f : Nat → Int) (w : World) (hn : n ≤ 1048576) (hF : Fits n f n) (h : Row w ao n f) :
    Calls Tryd.prog 29 #[.slice ao n c] w fun e w' => ∃ v, e = .returned v ∧ LL w.heap.size w'.heap.size w' v (out f n).m (out f n).ln (fun c => it f ((out f n).hd c)) ∧ Below w.heap.size w w' := by
  have H := Lib.hid h
  have HF := Lib.hid hF
  clear h hF
  obtain ⟨i0, hi, hz0, hz1, hz2⟩ := info_parts info3i
  have HZ0 := Lib.hid hz0
  have HZ1 := Lib.hid hz1
  have HZ2 := Lib.hid hz2
  obtain ⟨i1, hi1, hy0, hy1, hy2⟩ := info_parts info22i
  have HY0 := Lib.hid hy0
  have HY1 := Lib.hid hy1
  have HY2 := Lib.hid hy2
  clear hz0 hz1 hz2 hy0 hy1 hy2
  have hmk := mk_b n (by omega)
  go_enter Tryd.func29, Tryd.ntmps29
  go_wp2_with fail
  clear hmk
  go_loopw [3, 13] (fun v i wr => ∃ (k : Nat) (v' : Value), k ≤ n ∧ i = .int .i64 k ∧ v' = v ∧ Cy n w.heap.size k f w wr v') (fun _ i _ => n - (intOf i).toNat)
  case atStart => exact ⟨0, _, by omega, rfl, rfl, Seen.start (Below.refl _ _) (fun _ => rfl), LL.nil _ _ _ _ _, ⟨_, heap_alloc_new w _⟩⟩
  case round =>
    obtain ⟨i, v, hin, rfl, rfl, hC⟩ := hrel
    rename World => w5
    have HC := Lib.hid hC
    clear hC
    by_cases hlt : i < n
    · have q1 : (0 : Int) ≤ (i : Int) := by omega
      have q2 : (i : Int) < (n : Int) := by omega
      obtain ⟨c1, -⟩ := HC.out.seen.cell i hlt
      cases h0 : (out f i).s i
      · rw [h0] at c1
        have H0 := Lib.hid h0
        clear h0
        go_wp2_with fail
        go_loopw [6, 7] (fun o x w2 => ∃ (k : Nat) (o' : Value), x = .int .i64 (it f i k) ∧ o' = o ∧ Ci n w.heap.size i k w5.heap.size f w w2 v o') (fun o _ _ => n - lnV o)
        case atStart => exact ⟨0, _, rfl, rfl, HC.out.first (World.ownsRow_nil _ _ _ _)⟩
        case round =>
          rename World => w2
          obtain ⟨k, o, rfl, rfl, hI⟩ := hrel
          have HI := Lib.hid hI
          clear hI c1
          obtain ⟨r1, r2⟩ := it_range HF.out.all (i := (i : Int)) ⟨q1, q2⟩ k
          obtain ⟨y, hy⟩ : ∃ y : Nat, it f i k = y := ⟨(it f i k).toNat, by omega⟩
          have HYY := Lib.hid hy
          rw [hy] at r1 r2 ⊢
          have hyn : y < n := by omega
          clear hy
          obtain ⟨c1, c2⟩ := HI.out.seen.cell y hyn
          cases h1 : mks f (out f i).s i k y
          · rw [h1] at c1
            have H1 := Lib.hid h1
            have hroom := HI.out.room hyn h1
            clear h1
            rcases H.out with hz | ⟨b, off, rfl, hP⟩
            · omega
            have HP := Lib.hid (hP y hyn)
            clear hP
            go_wp2_with (at_builtin; refine wpList_append_own _ rfl (.tmp 33) (.tmp 35) 22 rfl w5.heap.size 3 i0 (.int .i64 0) 1 8 Tryd.underlying22 hi HZ0.out HZ1.out HZ2.out rfl (by decide) o k _ rfl (World.ownsRow.alloc (ownsRow_setCell_below HI.out.one HI.out.lt _) _) ⟨w2.heap.size, 0, none⟩ 1 1 [.int .i64 (y : Int)] rfl rfl (one_new (W := w2.setCell ⟨w.heap.size, y, none⟩ (.bool true)) (by simp) _ _) (ints_oneCell .i64 [(y : Int)]) (by unfold maxLen; omega) (by omega) (by have := HI.out.size; simp; omega) ?_)
            intro v3 w3 hown3 hgrow3 hnil3
            have hI3 := HI.out.step hyn HYY.out H1.out hown3 hgrow3
            have HI3 := Lib.hid hI3
            have c3 : w3.cell? ⟨b, off + y, none⟩ = some (.int .i64 (f y)) := (hI3.seen.bel.cell (cell_lt HP.out)).trans HP.out
            have e1 : it f i (k + 1) = f y := by rw [it, HYY.out]; rfl
            have E1 := Lib.hid e1
            have L1 := Lib.hid HI.out.one.len
            clear hown3 hgrow3 hnil3 hI3 e1
            go_wp2_with fail
            go_roundw
            case rel => exact ⟨k + 1, _, by rw [E1.out], rfl, HI3.out⟩
            case measure => rw [HI3.out.one.len, L1.out]; omega
          · rw [h1] at c1
            have H1 := Lib.hid h1
            clear h1
            obtain ⟨ao', co, rfl, -⟩ := HI.out.one.row
            obtain ⟨xs, hx1, hx3, hx4, hx5⟩ := HI.out.xs
            have HX1 := Lib.hid hx1
            have HX3 := Lib.hid hx3
            have HX4 := Lib.hid hx4
            have HX5 := Lib.hid hx5
            clear hx1 hx3 hx4 hx5
            have hm := out_m f i
            go_wp2_with (at_builtin; refine wpList_append_own _ rfl (.tmp 37) (.tmp 39) 35 rfl w.heap.size 22 i1 (.slice none 0 0) 1 24 Tryd.underlying35 hi1 HY0.out HY1.out HY2.out rfl (by decide) v (out f i).m xs rfl HX1.out ⟨w2.heap.size, 0, none⟩ 1 1 [.slice ao' k co] rfl rfl (cell_one_new w2 _ _) (slice_cell HI.out.one) (by unfold maxLen; omega) (by omega) (by have := HI.out.size; have := HI.out.lt; simp; omega) ?_)
            intro v4 w4 hown4 hgrow4 hnil4
            have hC4 := HI.out.done H0.out (by rw [HYY.out]; exact H1.out) HX1.out HX3.out HX4.out HX5.out hown4 hgrow4
            have HC4 := Lib.hid hC4
            clear hown4 hgrow4 hnil4 hC4
            go_wp2_with fail
            go_roundw
            case rel => exact ⟨i + 1, _, by omega, by go_num, rfl, HC4.out⟩
            case measure => simp [intOf]; omega
      · rw [h0] at c1
        have H0 := Lib.hid h0
        clear h0
        go_wp2_with fail
        go_roundw
        case rel => exact ⟨i + 1, _, by omega, by go_num, rfl, HC.out.skip H0.out⟩
        case measure => simp [intOf]; omega
    · obtain rfl : i = n := by omega
      go_wp2_with fail
      go_ret
      exact ⟨_, rfl, HC.out.ll, HC.out.seen.bel⟩

theorem Cy.begun {n X i : Nat} {f : Nat → Int} {W0 w : World} {v : Value} (h : Cy n X i f W0 w v) : Ci n X i 0 w.heap.size f W0 (w.alloc (.cells #[] 3)) v (.slice (some ⟨w.heap.size, 0, none⟩) 0 0) :=
  ⟨h.seen.alloc _, h.ll.alloc _, h.kind.alloc _, World.ownsRow_made w #[] 0 (Nat.le_refl _) (by unfold maxLen; omega) rfl, fun j hj => by omega, by have := cnt_le (mks f (out f i).s i 0) n; omega, by simp, h.seen.lt⟩
theorem Ci.none {n X i B : Nat} {f : Nat → Int} {W0 w : World} {v one : Value} (h : Ci n X i 0 B f W0 w v one) (hs : mks f (out f i).s i 0 (it f i 0) = true) : Cy n X (i + 1) f W0 w v :=
  Cy.skip ⟨h.seen, h.ll.up (Nat.le_refl _) h.size, h.kind⟩ hs
theorem Cy.start {n X : Nat} {f : Nat → Int} {W0 w w1 : World} (hB : Below (w.alloc (.cells #[] 22)).heap.size (w.alloc (.cells #[] 22)) w1) (h0 : Below W0.heap.size W0 w1) (hw : W0.heap.size ≤ w.heap.size) (hX : X = w1.heap.size) : Cy n X 0 f W0 (w1.alloc (Zb n)) (.slice (some ⟨w.heap.size, 0, none⟩) 0 0) := by
  subst hX
  have h1 : LL W0.heap.size (w.heap.size + 1) (w.alloc (.cells #[] 22)) (.slice (some ⟨w.heap.size, 0, none⟩) 0 0) 0 (out f 0).ln (fun c => it f ((out f 0).hd c)) := LL.made _ _ hw (by omega)
  have h2 := hB.size
  simp at h2
  exact ⟨Seen.start h0 (fun _ => rfl), ((h1.below hB).alloc _).up (Nat.le_refl _) (by simp; omega), ⟨_, heap_alloc_new w1 _⟩⟩

set_option maxRecDepth 100000 in
set_option maxHeartbeats 1000000 in
theorem refcycles_any (ao : Option Addr) (n c : Nat) (f : Nat → Int) (w : World) (hn : n ≤ 1048576) (hf : ∀ i, i < n → -9223372036854775808 ≤ f i ∧ f i ≤ 9223372036854775807) (K : Nat) (hF : Fits n f K) (h : Row w ao n f) :
    Calls Tryd.prog 25 #[.slice ao n c] w fun e w' => ∃ v, e = .returned v ∧ (K < n → ∃ X, v = .slice X 0 0) ∧ (K = n → LL w.heap.size w'.heap.size w' v (out f n).m (out f n).ln (fun c => it f ((out f n).hd c))) ∧ Below w.heap.size w w' := by
  have hb0 : Below w.heap.size w (w.alloc (.cells #[] 22)) := (Below.refl _ _).alloc (Nat.le_refl _) _
  have hC := refcheck_any ao n c f (w.alloc (.cells #[] 22)) (by omega) hf K hF (h.below hb0)
  have HC := Lib.hid hC
  have HB0 := Lib.hid hb0
  have H := Lib.hid h
  have HF := Lib.hid hF
  have hk := hF.le
  clear h hF hC hf hb0
  by_cases hKn : K < n
  · go_enter Tryd.func25, Tryd.ntmps25
    go_wp2_with fail
    refine HC.out.mono ?_
    rintro e w1 ⟨rfl, hb⟩
    have hb1 : Below w.heap.size w w1 := HB0.out.trans (hb.mono HB0.out.size)
    have HB1 := Lib.hid hb1
    clear hb hb1
    rw [OutK, if_pos hKn]
    go_wp2_with fail
    go_ret
    exact ⟨_, rfl, fun _ => ⟨_, rfl⟩, fun h => by omega, HB1.out⟩
  obtain rfl : K = n := by omega
  obtain ⟨i0, hi, hz0, hz1, hz2⟩ := info_parts info3i
  have HZ0 := Lib.hid hz0
  have HZ1 := Lib.hid hz1
  have HZ2 := Lib.hid hz2
  obtain ⟨i1, hi1, hy0, hy1, hy2⟩ := info_parts info22i
  have HY0 := Lib.hid hy0
  have HY1 := Lib.hid hy1
  have HY2 := Lib.hid hy2
  clear hz0 hz1 hz2 hy0 hy1 hy2
  have hmk := mk_b K (by omega)
  go_enter Tryd.func25, Tryd.ntmps25
  go_wp2_with fail
  refine HC.out.mono ?_
  rintro e w1 ⟨rfl, hb⟩
  have hb1 : Below w.heap.size w w1 := HB0.out.trans (hb.mono HB0.out.size)
  have HB1 := Lib.hid hb1
  have HB := Lib.hid hb
  clear hb hb1
  rw [OutK, if_neg hKn]
  go_wp2_with fail
  clear hmk
  go_loopw [3, 18] (fun v i wr => ∃ (k : Nat) (v' : Value), k ≤ K ∧ i = .int .i64 k ∧ v' = v ∧ Cy K w1.heap.size k f w wr v') (fun _ i _ => K - (intOf i).toNat)
  case atStart => exact ⟨0, _, by omega, rfl, rfl, Cy.start HB.out HB1.out (Nat.le_refl _) rfl⟩
  case round =>
    obtain ⟨i, v, hin, rfl, rfl, hC⟩ := hrel
    rename World => w5
    have HC := Lib.hid hC
    clear hC
    by_cases hlt : i < K
    · have q1 : (0 : Int) ≤ (i : Int) := by omega
      have q2 : (i : Int) < (K : Int) := by omega
      go_wp2_with fail
      go_loopw [6, 7] (fun o x w2 => ∃ (k : Nat) (o' : Value), x = .int .i64 (it f i k) ∧ o' = o ∧ Ci K w1.heap.size i k w5.heap.size f w w2 v o') (fun o _ _ => K - lnV o)
      case atStart => exact ⟨0, _, rfl, rfl, HC.out.begun⟩
      case round =>
        obtain ⟨k, o, rfl, rfl, hI⟩ := hrel
        rename World => w2
        have HI := Lib.hid hI
        clear hI
        obtain ⟨r1, r2⟩ := it_range HF.out.all (i := (i : Int)) ⟨q1, q2⟩ k
        obtain ⟨y, hy⟩ : ∃ y : Nat, it f i k = y := ⟨(it f i k).toNat, by omega⟩
        have HYY := Lib.hid hy
        rw [hy] at r1 r2 ⊢
        have hyn : y < K := by omega
        clear hy
        obtain ⟨c1, c2⟩ := HI.out.seen.cell y hyn
        cases h1 : mks f (out f i).s i k y
        · rw [h1] at c1
          have H1 := Lib.hid h1
          have hroom := HI.out.room hyn h1
          clear h1
          rcases H.out with hz | ⟨b, off, rfl, hP⟩
          · omega
          have HP := Lib.hid (hP y hyn)
          clear hP
          go_wp2_with (at_builtin; refine wpList_append_own _ rfl (.tmp 35) (.tmp 37) 22 rfl w5.heap.size 3 i0 (.int .i64 0) 1 8 Tryd.underlying22 hi HZ0.out HZ1.out HZ2.out rfl (by decide) o k _ rfl (World.ownsRow.alloc (ownsRow_setCell_below HI.out.one HI.out.lt _) _) ⟨w2.heap.size, 0, none⟩ 1 1 [.int .i64 (y : Int)] rfl rfl (one_new (W := w2.setCell ⟨w1.heap.size, y, none⟩ (.bool true)) (by simp) _ _) (ints_oneCell .i64 [(y : Int)]) (by unfold maxLen; omega) (by omega) (by have := HI.out.size; simp; omega) ?_)
          intro v3 w3 hown3 hgrow3 hnil3
          have hI3 := HI.out.step hyn HYY.out H1.out hown3 hgrow3
          have HI3 := Lib.hid hI3
          have c3 : w3.cell? ⟨b, off + y, none⟩ = some (.int .i64 (f y)) := (hI3.seen.bel.cell (cell_lt HP.out)).trans HP.out
          have e1 : it f i (k + 1) = f y := by rw [it, HYY.out]; rfl
          have E1 := Lib.hid e1
          have L1 := Lib.hid HI.out.one.len
          clear hown3 hgrow3 hnil3 hI3 e1
          go_wp2_with fail
          go_roundw
          case rel => exact ⟨k + 1, _, by rw [E1.out], rfl, HI3.out⟩
          case measure => rw [HI3.out.one.len, L1.out]; omega
        · rw [h1] at c1
          have H1 := Lib.hid h1
          clear h1
          by_cases hk0 : k = 0
          · subst hk0
            obtain ⟨ao', co, rfl, -⟩ := HI.out.one.row
            have hC4 := HI.out.none (by rw [HYY.out]; exact H1.out)
            have HC4 := Lib.hid hC4
            clear hC4
            go_wp2_with fail
            go_roundw
            case rel => exact ⟨i + 1, _, by omega, by go_num, rfl, HC4.out⟩
            case measure => simp [intOf]; omega
          obtain ⟨ao', co, rfl, -⟩ := HI.out.one.row
          obtain ⟨xs, hx1, hx3, hx4, hx5⟩ := HI.out.xs
          have HX1 := Lib.hid hx1
          have HX3 := Lib.hid hx3
          have HX4 := Lib.hid hx4
          have HX5 := Lib.hid hx5
          have hs0 : (out f i).s i = false := HI.out.free 0 (by omega)
          have H0 := Lib.hid hs0
          clear hx1 hx3 hx4 hx5 hs0
          have hm := out_m f i
          have hkp : (0 : Int) < (k : Int) := by omega
          go_wp2_with (at_builtin; refine wpList_append_own _ rfl (.tmp 42) (.tmp 44) 35 rfl w.heap.size 22 i1 (.slice none 0 0) 1 24 Tryd.underlying35 hi1 HY0.out HY1.out HY2.out rfl (by decide) v (out f i).m xs rfl HX1.out ⟨w2.heap.size, 0, none⟩ 1 1 [.slice ao' k co] rfl rfl (cell_one_new w2 _ _) (slice_cell HI.out.one) (by unfold maxLen; omega) (by omega) (by have := HI.out.size; have := HI.out.lt; have := HI.out.seen.lo; simp; omega) ?_)
          intro v4 w4 hown4 hgrow4 hnil4
          have hC4 := HI.out.done H0.out (by rw [HYY.out]; exact H1.out) HX1.out HX3.out HX4.out HX5.out hown4 hgrow4
          have HC4 := Lib.hid hC4
          clear hown4 hgrow4 hnil4 hC4
          go_wp2_with fail
          go_roundw
          case rel => exact ⟨i + 1, _, by omega, by go_num, rfl, HC4.out⟩
          case measure => simp [intOf]; omega
    · obtain rfl : i = K := by omega
      go_wp2_with fail
      go_ret
      exact ⟨_, rfl, fun h => by omega, fun _ => HC.out.ll, HC.out.seen.bel⟩
end Go.Proofs.YtjebnceajpkhmaaDoor
