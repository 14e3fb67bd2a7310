/- What SpareInts makes of a list of ints; KeptInts of it is true. -/
import Derived.Test.YtjebnceajpkhmaaDoorMem
import Derived.OwnWalk
namespace Go.Proofs.YtjebnceajpkhmaaDoor
open Go.RowKit

theorem info3i : (Tryd.prog.info? 3).map (fun i => (i.zero, i.size, i.bytes)) = some (some (.int .i64 0), 1, 8) := by kernel_rfl

theorem wrap_is (x : Int) (h0 : 0 ≤ x) (h1 : x ≤ 9223372036854775807) : IntKind.i64.wrap x = x := by
  rw [IntKind.wrap_i64]; omega

/-- k numbers f as values. -/
def ints (k : Nat) (f : Nat → Int) : List Value := (List.range k).map fun i => .int .i64 (f i)
theorem ints_len (k : Nat) (f : Nat → Int) : (ints k f).length = k := by simp [ints]
theorem ints_one (k : Nat) (f : Nat → Int) : ∀ u ∈ ints k f, u.oneCell' = true := by
  intro u hu; obtain ⟨_, _, rfl⟩ := List.mem_map.1 hu; rfl
theorem ints_at (k : Nat) (f : Nat → Int) (j : Nat) (hj : j < k) : (ints k f)[j]? = some (.int .i64 (f j)) := by simp [ints, hj]
theorem ints_at' {k : Nat} {f : Nat → Int} {j : Nat} {u : Value} (h : (ints k f)[j]? = some u) : j < k ∧ u = .int .i64 (f j) := by
  have h1 : j < k := by have := (List.getElem?_eq_some_iff.1 h).1; rwa [ints_len] at this
  rw [ints_at k f j h1] at h
  exact ⟨h1, (Option.some.inj h).symm⟩
theorem ints_succ (k : Nat) (f : Nat → Int) (v : Int) (h : f k = v) : ints (k + 1) f = ints k f ++ [.int .i64 v] := by
  simp [ints, List.range_succ, h]
theorem ints_congr {k : Nat} {f g : Nat → Int} (h : ∀ i, i < k → f i = g i) : ints k f = ints k g := by
  unfold ints
  exact List.map_congr_left fun i hi => by rw [h i (List.mem_range.1 hi)]

/-- The numbers f, owned, k of them, in a block with room for cap. -/
def Own (B : Nat) (w : World) (g k cap : Nat) (f : Nat → Int) : Prop := w.ownsRow B 3 1 (.slice (some ⟨g, 0, none⟩) k cap) k (ints k f)
theorem Own.cell {B : Nat} {w : World} {g k cap : Nat} {f : Nat → Int} (h : Own B w g k cap f) (j : Nat) (hj : j < k) : w.cell? ⟨g, j, none⟩ = some (.int .i64 (f j)) := by
  rw [World.ownsRow.cellAt h j (by omega), ints_at k f j hj]
theorem Own.lt {B : Nat} {w : World} {g k cap : Nat} {f : Nat → Int} (h : Own B w g k cap f) : B ≤ g ∧ g < w.heap.size := World.ownsRow.lt h g rfl
theorem Own.ints {B : Nat} {w : World} {g k cap : Nat} {f : Nat → Int} (h : Own B w g k cap f) : Ints w g 0 k f := fun i hi => by
  rw [Nat.zero_add]; exact h.cell i hi

/-- Is it a slice of n numbers f: nil, or they lie there. -/
def Arg (w : World) (v : Value) (n : Nat) (f : Nat → Int) : Prop := (v = .slice none 0 0 ∧ n = 0) ∨ (∃ p c, v = .slice (some p) 0 c ∧ n = 0) ∨ ∃ b off c, v = .slice (some ⟨b, off, none⟩) n c ∧ Ints w b off n f

def full (n : Nat) (f : Nat → Int) (i : Nat) : Int := if i < n then f i else markv 7 ((i - n : Nat) : Int)

/-- What SpareInts answers. -/
def Spared (w : World) (n : Nat) (f : Nat → Int) (e : Ending) (w' : World) : Prop :=
  ∃ g, e = .returned (.tuple #[.slice (some ⟨g, 0, none⟩) n (n + 80), .slice (some ⟨g, 0, none⟩) (n + 80) (n + 80)]) ∧ Ints w' g 0 (n + 80) (full n f) ∧ w.heap.size ≤ g ∧ g < w'.heap.size ∧ Below w.heap.size w w'

theorem spare_at (ao : Option Addr) (n c : Nat) (f : Nat → Int) (w : World) (hn : n ≤ 17592186044416) (h0 : ao = none → n = 0 ∧ c = 0)
    (h : ∀ ad, ao = some ad → ∀ j u, (ints n f)[j]? = some u → w.cell? (ad.add j) = some u) :
    Calls Tryd.prog 7 #[.slice ao n c] w (Spared w n f) := by
  obtain ⟨i0, hi, hz0, hz1, hz2⟩ := info_parts info3i
  have H := Lib.hid h
  have HZ0 := Lib.hid hz0
  have HZ1 := Lib.hid hz1
  have HZ2 := Lib.hid hz2
  clear h hz0 hz1 hz2
  have HH := Lib.hid h0
  clear h0
  go_enter Tryd.func7, Tryd.ntmps7
  go_wp2_with (at_make; refine wpList_make_own _ rfl _ _ 22 rfl w.heap.size 3 i0 (.int .i64 0) 1 Tryd.underlying22 hi HZ0.out HZ1.out _ _ _ (n + 80) rfl rfl (by omega) ?b2 ?b3 (Nat.le_refl _) ?_)
  case b2 => rw [HZ2.out]; omega
  case b3 => unfold maxLen; omega
  intro w0 hown0 hgrow0
  have HO := Lib.hid hown0
  have hb0 : Below w.heap.size w w0 := (Below.refl _ _).grown hgrow0 (Nat.le_refl _) (by simp)
  have HB := Lib.hid hb0
  clear hown0 hgrow0 hb0
  go_wp2_with (at_builtin; refine wpList_append_fits_any _ rfl (.tmp 10) (.tmp 11) 22 rfl w.heap.size 3 i0 1 Tryd.underlying22 hi HZ1.out w.heap.size 0 (n + 80) [] rfl HO.out ao n c (ints n f) rfl (by rw [ints_len]; omega) HH.out ?c1 (ints_one n f) (by omega) ?_)
  case c1 =>
    intro ad ha j u hu
    have h1 := H.out ad ha j u hu
    exact (HB.out.cell (cell_lt h1)).trans h1
  intro w1 hown1 hgrow1
  have hO1 : Own w.heap.size w1 w.heap.size n (n + 80) (full n f) := by
    have e1 : ints n (full n f) = [] ++ ints n f := by
      rw [List.nil_append]; exact ints_congr fun i hi => by simp [full, hi]
    unfold Own; rw [e1]
    simpa using hown1
  have hb1 : Below w.heap.size w w1 := HB.out.grown hgrow1 HB.out.size (by intro k hk; cases hk; exact Nat.le_refl _)
  have HO1 := Lib.hid hO1
  have HB1 := Lib.hid hb1
  clear hown1 hgrow1 hO1 hb1
  go_wp2_with fail
  go_loopw [4, 5] (fun s i wr => ∃ k : Nat, k ≤ 80 ∧ i = .int .i64 k ∧ s = .slice (some ⟨w.heap.size, 0, none⟩) (n + k) (n + 80) ∧ Own w.heap.size wr w.heap.size (n + k) (n + 80) (full n f) ∧ Below w.heap.size w wr) (fun _ i _ => 80 - (intOf i).toNat)
  case atStart => exact ⟨0, by omega, rfl, by simp, by simpa using HO1.out, HB1.out⟩
  case round =>
    obtain ⟨k, hk, rfl, rfl, hO, hB⟩ := hrel
    have HOk := Lib.hid hO
    have HBk := Lib.hid hB
    clear hO hB
    by_cases hlt : k < 80
    · go_wp2_with (go_at_call 26; refine (mark_any _ _ _).mono ?_)
      rintro e w2 ⟨rfl, rfl⟩
      generalize hmv : markv 7 (k : Int) = mv
      have HMV := Lib.hid hmv
      clear hmv
      go_wp2_with (at_builtin; refine wpList_append_fits _ rfl (.tmp 17) (.tmp 20) 22 rfl w.heap.size 3 i0 1 Tryd.underlying22 hi HZ1.out w.heap.size (n + k) (n + 80) _ rfl (HOk.out.alloc _) ⟨w2.heap.size, 0, none⟩ 1 1 [.int .i64 mv] rfl rfl (cell_one_new _ _ _) (ints_oneCell .i64 [mv]) (by omega) ?_)
      intro w3 hown3 hgrow3
      have HO3 := Lib.hid hown3
      have HG3 := Lib.hid hgrow3
      clear hown3 hgrow3
      go_wp2_with fail
      go_roundw
      case rel =>
        refine ⟨k + 1, by omega, by go_num, rfl, ?_, ?_⟩
        · have e0 : full n f (n + k) = mv := by rw [full, if_neg (by omega), show n + k - n = k by omega]; exact HMV.out
          have e1 : ints (n + (k + 1)) (full n f) = ints (n + k) (full n f) ++ [.int .i64 mv] := ints_succ (n + k) _ _ e0
          unfold Own; rw [e1]; exact HO3.out
        · exact (HBk.out.alloc HBk.out.size _).grown HG3.out (by have := HBk.out.size; simp; omega) (by intro k hk; cases hk; exact Nat.le_refl _)
      case measure => simp [intOf]; omega
    · obtain rfl : k = 80 := by omega
      go_wp2_with fail
      go_ret2
      exact ⟨_, rfl, HOk.out.ints, Nat.le_refl _, HOk.out.lt.2, HBk.out⟩

theorem spare {v : Value} {n : Nat} {f : Nat → Int} (w : World) (hn : n ≤ 17592186044416) (h : Arg w v n f) : Calls Tryd.prog 7 #[v] w (Spared w n f) := by
  rcases h with ⟨rfl, rfl⟩ | ⟨p, c, rfl, rfl⟩ | ⟨b, off, c, rfl, h⟩
  · exact spare_at none 0 0 f w hn (fun _ => ⟨rfl, rfl⟩) (by intro ad h; cases h)
  · exact spare_at _ 0 c f w hn (by intro h; cases h) (by intro ad h j u hu; simp [ints] at hu)
  · refine spare_at _ n c f w hn (by intro h; cases h) ?_
    intro ad ha j u hu
    cases ha
    obtain ⟨hj, rfl⟩ := ints_at' hu
    have := h j hj
    cases j <;> simpa [Addr.add] using this

set_option maxRecDepth 100000 in
theorem kept_at (g n c : Nat) (ao : Option Addr) (c' : Nat) (f : Nat → Int) (w : World) (hn : n ≤ 17592186044416) (hg : Ints w g 0 (n + 80) (full n f)) (h : Row w ao n f) :
    Calls Tryd.prog 12 #[.slice (some ⟨g, 0, none⟩) (n + 80) c, .slice ao n c'] w fun e w' => e = .returned (.bool true) ∧ Below w.heap.size w w' := by
  have H := Lib.hid h
  have HG := Lib.hid hg
  clear h hg
  go_enter Tryd.func12, Tryd.ntmps12
  go_wp2_with fail
  go_loopw [15] (fun i wr => ∃ k m : Nat, k ≤ n ∧ i = .int .i64 k ∧ wr = w.drewN m) (fun i _ => n - (intOf i).toNat)
  case atStart => exact ⟨0, 0, by omega, rfl, rfl⟩
  case round =>
    obtain ⟨k, m, hk, rfl, rfl⟩ := hrel
    by_cases hlt : k < n
    · rcases H.out with h0 | ⟨b, off, rfl, hI⟩
      · omega
      have c1 := HG.out k (by omega)
      have c2 := hI k hlt
      clear hI
      rw [show full n f k = f k by simp [full, hlt], Nat.zero_add] at c1
      have q1 : (0 : Int) ≤ (k : Int) := by omega
      have q2 : (k : Int) < (n : Int) := by omega
      have q3 : (k : Int) < (n : Int) + 80 := by omega
      have hd : decide ((k : Int) < (n : Int)) = true := by simp; omega
      go_wp2_with fail
      go_quiet (fail)
      go_wp2_with fail
      go_roundw
      case rel => exact ⟨k + 1, m + nq, by omega, by go_num, rfl⟩
      case measure => simp [intOf]; omega
    · go_wp2_with fail
      go_loopw [6] (fun i wr => ∃ k : Nat, k ≤ 80 ∧ i = .int .i64 k ∧ ∃ m, wr = w.drewN m) (fun i _ => 80 - (intOf i).toNat)
      case atStart => exact ⟨0, by omega, rfl, m, rfl⟩
      case round =>
        obtain ⟨j, hj, rfl, hm⟩ := hrel
        have HM := Lib.hid hm
        clear hm
        by_cases hlt' : j < 80
        · have c1 : wr.cell? ⟨g, 0 + (n + j), none⟩ = some (.int .i64 (full n f (n + j))) := by obtain ⟨m', rfl⟩ := HM.out; exact HG.out (n + j) (by omega)
          rw [show full n f (n + j) = markv 7 (j : Int) by rw [full, if_neg (by omega)]; congr 2; omega, Nat.zero_add] at c1
          have q1 : (0 : Int) ≤ (n : Int) + (j : Int) := by omega
          have q3 : (n : Int) + (j : Int) < (n : Int) + 80 := by omega
          have q4 : ((n : Int) + (j : Int)).toNat = n + j := by omega
          have q5 : IntKind.i64.wrap ((n : Int) + (j : Int)) = (n : Int) + (j : Int) := wrap_is _ (by omega) (by omega)
          go_wp2_with fail
          go_quiet ((go_at_call 26; go_loud (exact Calls.quiet_of_same (mark_any _ _ _))))
          go_wp2_with fail
          go_roundw
          case rel => exact ⟨j + 1, by omega, by go_num, by obtain ⟨m', rfl⟩ := HM.out; exact ⟨m' + nq, by simp⟩⟩
          case measure => simp [intOf]; omega
        · go_wp2_with fail
          go_ret
          obtain ⟨m', rfl⟩ := HM.out
          exact ⟨rfl, below_drewN (Below.refl _ _) _⟩
end Go.Proofs.YtjebnceajpkhmaaDoor
