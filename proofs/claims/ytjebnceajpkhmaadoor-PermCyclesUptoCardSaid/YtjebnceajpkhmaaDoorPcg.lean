/- The walk of PermCycles where the list is a permutation: it returns true. -/
import Derived.Test.YtjebnceajpkhmaaDoorPit
namespace Go.Proofs.YtjebnceajpkhmaaDoor
open Go.RowKit Go.Shelf
attribute [local go_sem] Oper.semAt_some

theorem cnt_none (n : Nat) : cnt (fun _ => false) n = n := by
  induction n with
  | zero => rfl
  | succ n ih => unfold cnt; rw [ih]; simp

theorem mk_step {f : Nat → Int} {s : Int → Bool} {i : Int} {j y : Nat} (hy : it f i j = y) (z : Nat) : mks f s i (j + 1) (z : Int) = if z = y then true else mks f s i j z := by
  rw [mks_succ, hy]
  by_cases e : z = y
  · subst e; simp
  · have e' : ¬ (z : Int) = (y : Int) := by omega
    simp [e, e']

theorem Seen.drewN {n X : Nat} {s : Int → Bool} {W0 w : World} (h : Seen n X s W0 w) (m : Nat) : Seen n X s W0 (w.drewN m) :=
  have hb : Below w.heap.size w (w.drewN m) := below_drewN (Below.refl _ _) m
  ⟨fun x hx => ⟨(hb.cell (p := ⟨X, x, none⟩) h.lt).trans (h.cell x hx).1, (hb.frozen (p := ⟨X, x, none⟩) h.lt).trans (h.cell x hx).2⟩, Nat.lt_of_lt_of_le h.lt hb.size, h.lo, h.bel.trans (hb.mono h.bel.size)⟩

/-- The outer loop, ahead of list i: least, count, i, the marks. -/
def Ro (n m X : Nat) (f : Nat → Int) (w4 : World) (l c i : Value) (wr : World) : Prop :=
  ∃ (k a q : Nat) (b : Int), k ≤ m ∧ i = .int .i64 k ∧ a ≤ n ∧ (out f a).m = k ∧ l = .int .i64 b ∧ -1 ≤ b ∧ b < n ∧ (∀ a', Lst n f k a' → b < a') ∧ c = .int .i64 q ∧ q + cnt (out f a).s n = n ∧ Seen n X (out f a).s w4 wr
/-- The inner loop, in list k that begins at a, ahead of its place j. -/
def Rj (n k a X : Nat) (f : Nat → Int) (w4 : World) (c i : Value) (wr : World) : Prop :=
  ∃ (j q : Nat), j ≤ (out f n).ln k ∧ i = .int .i64 j ∧ c = .int .i64 q ∧ q + cnt (mks f (out f a).s a j) n = n ∧ Seen n X (mks f (out f a).s a j) w4 wr

set_option maxRecDepth 100000 in
set_option maxHeartbeats 4000000 in
theorem pc_good (A : Nat → Addr) (ao : Option Addr) (n c : Nat) (st : Int) (f : Nat → Int) (w : World) (hn : n ≤ 1048576) (hf : ∀ i, i < n → -9223372036854775808 ≤ f i ∧ f i ≤ 9223372036854775807)
    (hF : Fits n f n) (hR : Row w ao n f) (hE : Glo A w) :
    Calls Tryd.prog 4 #[.slice ao n c, .int .i64 st] w fun e w' => e = .returned (.bool true) ∧ Below w.heap.size w w' := by
  have HF := Lib.hid hF
  have HV := Lib.hid hf
  have HR := Lib.hid hR
  have HE := Lib.hid hE
  have hln := ln_ok hF.all n (Nat.le_refl _)
  have hmn := out_m f n
  obtain ⟨m, hm⟩ : ∃ m, (out f n).m = m := ⟨_, rfl⟩
  have HM := Lib.hid hm
  rw [hm] at hln hmn
  have HLN := Lib.hid hln
  clear hF hf hR hE hln hm
  have hmk := mk_b n (by omega)
  refine (callsIn_wide (n := 5)).1 ?_
  refine callsIn_of_wp_marks Tryd.func4 rfl trivial ?_ rfl
  simp only [Tryd.ntmps4, List.size_toArray, List.length_cons, List.length_nil, Nat.reduceAdd, Nat.reduceSub, Array.replicate_succ, Array.replicate_zero, List.push_toArray, List.append_toArray, List.nil_append, List.cons_append]
  refine wpIn_wide.2 ?_
  go_wp2_with fail
  obtain ⟨x3, x4⟩ := P2_boxes w st
  have hb0 := P2_below w st
  have hs0 := P2_size w st
  change Calls Tryd.prog 6 #[] (P2 w st) _
  refine (lives_any A (P2 w st) (HE.out.below hb0)).mono ?_
  rintro e w1 ⟨rfl, hb⟩
  have hb1 : Below w.heap.size w w1 := hb0.trans (hb.mono hb0.size)
  have hs1 := hb.size
  rw [hs0] at hs1
  have y4 := box_below x4 hb
  have y3 := box_below x3 hb
  clear x3 x4 hb0 hb hs0
  have HY := Lib.hid (And.intro y3 y4)
  have HB1 := Lib.hid hb1
  clear y3 y4 hb1
  go_wp2_with fail
  refine (lawcycles_any A ao n c f w1 hn HV.out n HF.out (HR.out.below HB1.out) (HE.out.below HB1.out)).mono ?_
  rintro e w2 ⟨v, rfl, hb, ⟨h, -⟩ | ⟨-, hL⟩⟩
  · exact absurd h (by omega)
  rw [HM.out] at hL
  have hb2 : Below w.heap.size w w2 := HB1.out.trans (hb.mono HB1.out.size)
  have hs2 := hb.size
  have y3 := box_below HY.out.1 hb
  have y4 := box_below HY.out.2 hb
  clear HY HB1 hb
  have HY := Lib.hid (And.intro y3 y4)
  have HB2 := Lib.hid hb2
  clear y4 y3 hb2
  obtain ⟨a5, c5, rfl, hr, -⟩ := hL.rows
  have HL := Lib.hid hL
  have HR2 := Lib.hid hr
  clear hL hr
  go_wp2_with fail
  have hb3 : Below w.heap.size w (w2.alloc (.cells #[.slice a5 m c5] 35)) := HB2.out.alloc HB2.out.size _
  have hw2 : Below w2.heap.size w2 (w2.alloc (.cells #[.slice a5 m c5] 35)) := (Below.refl _ _).alloc (Nat.le_refl _) _
  refine (check_any A ao n c f (w2.alloc (.cells #[.slice a5 m c5] 35)) (by omega) HV.out n HF.out (HR.out.below hb3) (HE.out.below hb3)).mono ?_
  rintro e w4 ⟨rfl, hb⟩
  have y6 := box_below (Boxed.new w2 35 (.slice a5 m c5)) hb
  have y4 := box_below (HY.out.2.alloc _) hb
  have y3 := box_below (HY.out.1.alloc _) hb
  have hb4 := hb3.trans (hb.mono hb3.size)
  have hs4 := hb.size
  simp at hs4
  have h24 : Below w2.heap.size w2 w4 := hw2.trans (hb.mono hw2.size)
  have hL4 := HL.out.below h24
  have hr4 := HR2.out.below h24
  have hR4 := HR.out.below hb4
  have d6 := y6.cell
  have HD6 := Lib.hid d6
  have HY4 := Lib.hid (And.intro y3 (And.intro y4 y6))
  have HL4 := Lib.hid hL4
  have HR24 := Lib.hid hr4
  have HR4 := Lib.hid hR4
  have HB4 := Lib.hid hb4
  have hseen : Seen n w4.heap.size (out f 0).s w4 (w4.alloc (Zb n)) := Seen.start (Below.refl _ _) (fun x => rfl)
  have HSeen := Lib.hid hseen
  have d6' := (hseen.bel.cell (p := ⟨w2.heap.size, 0, none⟩) y6.lt).trans y6.cell
  clear y6 y4 y3 hb4 hb hb3 hw2 HY HB2 HL HR2 h24 hL4 hr4 hR4 d6 hseen
  rw [OutC, if_neg (Nat.lt_irrefl n)]
  go_wp2_with fail
  clear hmk d6'
  go_loopw [8, 9, 39] (fun l q i wr => Ro n m w4.heap.size f w4 l q i wr) (fun _ _ i _ => m - (intOf i).toNat)
  case atStart => exact ⟨0, 0, 0, -1, by omega, rfl, by omega, rfl, rfl, by omega, by omega, fun a' _ => by omega, rfl, by have := cnt_none n; show 0 + cnt (fun _ => false) n = n; omega, HSeen.out⟩
  case round =>
    obtain ⟨k, a, q, b, hk, rfl, ha, hma, rfl, hb1, hb2, hnext, rfl, hcnt, hS⟩ := hrel
    by_cases hkt : k < m
    · obtain ⟨a', hLst⟩ := lst HF.out (show k < (out f n).m by rw [HM.out]; exact hkt)
      have hsame : out f a = out f a' := by
        rcases Nat.le_total a a' with h | h
        · exact out_eq f a a' h (hma.trans hLst.m.symm)
        · exact (out_eq f a' a h (hLst.m.trans hma.symm)).symm
      rw [hsame] at hcnt hS
      have hba := hnext a' hLst
      have hall := hLst.lt
      obtain ⟨hp1, hp2⟩ := HLN.out k hkt
      clear hsame hma hnext ha
      rcases HR24.out with h0 | ⟨bl, rfl, hrows⟩
      · omega
      obtain ⟨ac, kc, c1, hrow, -⟩ := hrows k hkt
      rcases hrow with hz | ⟨b', off', rfl, hI⟩
      · omega
      have hhd := hLst.hd
      have c1' := (hS.bel.cell (cell_lt c1)).trans c1
      have i0 : wr.cell? ⟨b', off', none⟩ = some (.int .i64 (a' : Int)) := by
        have h0 := hI 0 (by omega)
        rw [Nat.add_zero] at h0
        dsimp only at h0
        rw [show it f ((out f n).hd k) 0 = (a' : Int) from hhd] at h0
        exact (hS.bel.cell (cell_lt h0)).trans h0
      have HI : Hid (∀ j, j < (out f n).ln k → w4.cell? ⟨b', off' + j, none⟩ = some (.int .i64 (it f a' j))) := Lib.hid fun j hj => by
        have h0 := hI j hj
        dsimp only at h0
        rw [hhd] at h0
        exact h0
      have HLst := Lib.hid hLst
      have HS := Lib.hid hS
      have HCnt := Lib.hid hcnt
      clear hLst hS hcnt hI hrows c1 hhd
      obtain ⟨L, hL⟩ : ∃ L, (out f n).ln k = L := ⟨_, rfl⟩
      have HLn := Lib.hid hL
      rw [hL] at hp1 hp2 c1' HI
      clear hL
      have q1 : (0 : Int) ≤ (k : Int) := by omega
      have q2 : (k : Int) < (m : Int) := by omega
      have q3 : (0 : Int) < (L : Int) := by omega
      have t1 : ((L : Int) == 0) = false := by simp; omega
      have t2 : decide ((a' : Int) ≤ b) = false := by simp; omega
      go_wp2_with fail
      clear t1 t2 i0 c1' q3
      go_loopw [9, 58] (fun q i wr => Rj n k a' w4.heap.size f w4 q i wr) (fun _ i _ => L - (intOf i).toNat)
      case atStart => exact ⟨0, q, by omega, rfl, rfl, HCnt.out, HS.out⟩
      case round =>
        obtain ⟨j, q', hj, rfl, rfl, hcnt', hS'⟩ := hrel
        rw [HLn.out] at hj
        have HS' := Lib.hid hS'
        have HCnt' := Lib.hid hcnt'
        clear hS' hcnt'
        by_cases hjt : j < L
        · obtain ⟨y, hy⟩ : ∃ y : Nat, it f a' j = y := ⟨(it f a' j).toNat, by have := (HLst.out.low j (by rw [HLn.out]; exact hjt)); omega⟩
          obtain ⟨l1, l2⟩ := HLst.out.low j (by rw [HLn.out]; exact hjt)
          have l3 := HLst.out.free j (by rw [HLn.out]; exact hjt)
          have l4 := HLst.out.next (j := j) (by rw [HLn.out]; exact hjt)
          have x1 := HI.out j hjt
          obtain ⟨t, ht⟩ : ∃ t, (j + 1) % L = t := ⟨_, rfl⟩
          have htl : t < L := by rw [← ht]; exact Nat.mod_lt _ (by omega)
          have x2 := HI.out t htl
          rw [HLn.out, ht] at l4
          rw [hy] at l1 l2 l3 l4 x1
          rw [← l4] at x2
          obtain ⟨z, hz⟩ : ∃ z, f y = z := ⟨_, rfl⟩
          have hyn : y < n := by omega
          rcases HR4.out with h0 | ⟨bp, offp, rfl, hP⟩
          · omega
          have x3 := hP y hyn
          rw [show ((y : Int)).toNat = y from rfl, hz] at x2
          rw [hz] at x3
          have HYy := Lib.hid hy
          have HTt := Lib.hid ht
          have L3 := Lib.hid l3
          obtain ⟨s1, s2⟩ := HS'.out.cell y hyn
          rw [l3] at s1
          have x1' := (HS'.out.bel.cell (cell_lt x1)).trans x1
          have x2' := (HS'.out.bel.cell (cell_lt x2)).trans x2
          have x3' := (HS'.out.bel.cell (cell_lt x3)).trans x3
          have q3 : (0 : Int) ≤ (j : Int) := by omega
          have q4 : (j : Int) < (L : Int) := by omega
          have q5 : (0 : Int) ≤ (t : Int) := by omega
          have q6 : (t : Int) < (L : Int) := by omega
          have q7 : (0 : Int) ≤ (y : Int) := by omega
          have q8 : (y : Int) < (n : Int) := by omega
          clear x1 x2 x3 l3 l4 hP hy ht hz l2
          have t1 : decide (y < a') = false := by simp; omega
          have t2 : decide (n ≤ y) = false := by simp; omega
          have t3 : IntKind.i64.wrap ((j : Int) + 1) = (j : Int) + 1 := wrap_is _ (by omega) (by omega)
          have t4 : ((j : Int) + 1).tmod (L : Int) = (t : Int) := by rw [← HTt.out]; rfl
          go_wp2_with fail
          go_quiet (fail)
          clear t1 t2 t3 t4 x1' x2' x3'
          have hSq : Seen n w4.heap.size (mks f (out f a').s a' j) w4 (wr.drewN nq) := HS'.out.drewN nq
          have hSn := hSq.step hyn (mk_step HYy.out)
          have hcn := cnt_mark (mk_step HYy.out) L3.out n hyn
          have hcb := HCnt'.out
          have hcl := cnt_le (mks f (out f a').s a' j) n
          have HSn := Lib.hid hSn
          have hqn : q' + 1 + cnt (mks f (out f a').s a' (j + 1)) n = n := by omega
          have hq1 : q' ≤ n := by omega
          have HQn := Lib.hid hqn
          clear hSq hSn hcn hcb hcl hqn
          go_wp2_with fail
          go_roundw
          case rel => exact ⟨j + 1, q' + 1, by rw [HLn.out]; omega, by go_num, by go_num, HQn.out, HSn.out⟩
          case measure => simp [intOf]; omega
        · obtain rfl : j = L := by omega
          have hs' := HLst.out.s'
          rw [HLn.out] at hs'
          have hSn := HS'.out
          have hcn := HCnt'.out
          rw [← hs'] at hSn hcn
          have HSn := Lib.hid hSn
          have HCn := Lib.hid hcn
          clear hs' hSn hcn
          go_wp2_with fail
          go_roundw
          case rel => exact ⟨k + 1, a' + 1, q', (a' : Int), by omega, by go_num, by omega, HLst.out.m', rfl, by omega, by omega, fun a'' h => by have := HLst.out.rise h; omega, rfl, HCn.out, HSn.out⟩
          case measure => simp [intOf]; omega
    · obtain rfl : k = m := by omega
      have hsame : out f a = out f n := out_eq f a n ha (by rw [hma, HM.out])
      rw [hsame] at hcnt hS
      have hz := all_marked HF.out
      obtain rfl : n = q := by omega
      have hb5 := HB4.out.trans (hS.bel.mono HB4.out.size)
      have hL5 := HL4.out.below hS.bel
      have hr5 := HR24.out.below hS.bel
      have HR5 := Lib.hid hr5
      have hs5 := hS.bel.size
      have y3 := box_below HY4.out.1 hS.bel
      have y4 := box_below HY4.out.2.1 hS.bel
      have y6 := box_below HY4.out.2.2 hS.bel
      have HY5 := Lib.hid (And.intro y3 (And.intro y4 y6))
      have HL5 := Lib.hid hL5
      have HB5 := Lib.hid hb5
      clear hb5 hL5 hr5 y3 y4 y6 hS hcnt hz hsame hma hnext HY4 HL4 HR24 HR4 HSeen HD6 hb1 hb2 ha
      go_wp2_with fail
      refine (lawcycles_any A ao n c f wr hn HV.out n HF.out (HR.out.below HB5.out) (HE.out.below HB5.out)).mono ?_
      rintro e w6 ⟨v, rfl, hb, ⟨h, -⟩ | ⟨-, hM⟩⟩
      · exact absurd h (by omega)
      rw [HM.out] at hM
      have hb6 := HB5.out.trans (hb.mono HB5.out.size)
      have hL6 := HL5.out.below hb
      have hr6 := HR5.out.below hb
      have hs6 := hb.size
      have y3 := box_below HY5.out.1 hb
      have y4 := box_below HY5.out.2.1 hb
      have y6 := box_below HY5.out.2.2 hb
      have d6 := y6.cell
      obtain ⟨a7, c7, rfl, hrM, -⟩ := hM.rows
      have HY6 := Lib.hid (And.intro y3 (And.intro y4 y6))
      have HL6 := Lib.hid hL6
      have HM6 := Lib.hid hM
      have HR6 := Lib.hid hr6
      have HRM6 := Lib.hid hrM
      have HB6 := Lib.hid hb6
      clear hb6 hL6 hr6 hM hrM y3 y4 y6 hb HY5 HL5 HR5 HB5
      have t1 : ((n : Int) != (n : Int)) = false := by simp
      go_wp2_with fail
      refine (same_lists a7 a5 k c7 c5 _ _ w6 (by omega) HRM6.out HR6.out).mono ?_
      rintro e w7 ⟨rfl, hb⟩
      have hb7 := HB6.out.trans (hb.mono HB6.out.size)
      have hL7 := HL6.out.below hb
      have hM7 := HM6.out.below hb
      have hs7 := hb.size
      have y3 := box_below HY6.out.1 hb
      have y4 := box_below HY6.out.2.1 hb
      have y6 := box_below HY6.out.2.2 hb
      have d6 := y6.cell
      have HY7 := Lib.hid (And.intro y3 (And.intro y4 y6))
      have HL7 := Lib.hid hL7
      have HM7 := Lib.hid hM7
      have HB7 := Lib.hid hb7
      clear hb7 hL7 hM7 y3 y4 y6 hb HY6 HL6 HM6 HB6 HR6 HRM6 t1
      go_wp2_with fail
      have hb8 : Below w7.heap.size w7 (w7.alloc (.cells #[.int .i64 0] 3)) := (Below.refl _ _).alloc (Nat.le_refl _) _
      have hB8 := HB7.out.trans (hb8.mono HB7.out.size)
      refine (iter_any A ao n c f (w7.alloc (.cells #[.int .i64 0] 3)) hn HV.out n HF.out (HR.out.below hB8) (HE.out.below hB8)).mono ?_
      rintro e w9 ⟨rfl, hb, hlt9, v9, hc9, ⟨h, -⟩ | ⟨-, hN⟩⟩
      · exact absurd h (by omega)
      rw [HM.out] at hN
      obtain ⟨a9, c9, rfl, -, -⟩ := hN.rows
      have h79 : Below w7.heap.size w7 w9 := hb8.trans (hb.mono hb8.size)
      have hb9 := HB7.out.trans (h79.mono HB7.out.size)
      have hL9 := HL7.out.below h79
      have hM9 := HM7.out.below h79
      have hs9 := hb.size
      simp at hs9 hlt9
      have y3 := box_below HY7.out.1 h79
      have y4 := box_below HY7.out.2.1 h79
      have y6 := box_below HY7.out.2.2 h79
      have y15 := box_below (Boxed.new w7 3 (.int .i64 0)) hb
      have HY9 := Lib.hid (And.intro y3 (And.intro y4 (And.intro y6 y15)))
      have HL9 := Lib.hid hL9
      have HM9 := Lib.hid hM9
      have HN9 := Lib.hid hN
      have HB9 := Lib.hid hb9
      have HC9 := Lib.hid hc9
      clear hb9 hL9 hM9 hN hc9 y3 y4 y6 y15 hb h79 hB8 hb8 HY7 HL7 HM7 HB7 d6
      have hq := func_ne_nil (.func 30) #[] #[.pointer (some ⟨w7.heap.size + 1, 0, none⟩)]
      go_wp2_with fail
      have hIt : It w.heap.size w2.heap.size w7.heap.size (w9.heap.size + 1) w1.heap.size w2.heap.size wr.heap.size w6.heap.size (w7.heap.size + 1 + 1) w9.heap.size k st (.slice a5 k c5) (.slice a7 k c7) (.slice a9 k c9) (out f n).ln (fun c => it f ((out f n).hd c)) w 0 w9 := by
        obtain ⟨y3, y4, y6, y15⟩ := HY9.out
        refine ⟨y3, y4, y6, y15, HL9.out, HM9.out, by simpa using HN9.out, fun cs t fr he => (by rw [Array.getElem?_eq_none (by omega)] at he; cases he), Nat.le_refl _, HB9.out, by omega, by omega, by omega, by omega, by omega, by omega, by omega, by omega, by omega⟩
      have HIt := Lib.hid hIt
      have hc9 : w9.cell? ⟨w7.heap.size + 1, 0, none⟩ = some (.slice a9 k c9) := by simpa using HC9.out
      have HC := Lib.hid hc9
      clear hIt hc9 HY9 HL9 HM9 HN9 HB9 HC9 hq d6
      refine (wpIn_wide (n := 5)).1 ?_
      refine range_in Fence.wide 5 trivial rfl (by omega) (w7.heap.size + 1) k a9 c9 (out f n).ln (fun c => it f ((out f n).hd c)) (by omega) (fun c hc => by have := HLN.out c hc; omega) ?hps ?hg HC.out
        (fun q W => It w.heap.size w2.heap.size w7.heap.size (w9.heap.size + 1) w1.heap.size w2.heap.size wr.heap.size w6.heap.size (w7.heap.size + 1 + 1) w9.heap.size k st (.slice a5 k c5) (.slice a7 k c7) (.slice a9 k c9) (out f n).ln (fun c => it f ((out f n).hd c)) w q W)
        (fun c q W => (c = .exit 4 ∧ (q : Int) = st) ∧ It w.heap.size w2.heap.size w7.heap.size (w9.heap.size + 1) w1.heap.size w2.heap.size wr.heap.size w6.heap.size (w7.heap.size + 1 + 1) w9.heap.size k st (.slice a5 k c5) (.slice a7 k c7) (.slice a9 k c9) (out f n).ln (fun c => it f ((out f n).hd c)) w q W)
        (fun q W W' h hs => h.sim hs) (fun c q W W' h hs => ⟨h.1, h.2.sim hs⟩) (fun q W h => ?rows) HIt.out ?A1 ?assign ?body ?done ?stop
      case hps => rfl
      case hg => rfl
      case rows =>
        obtain ⟨a, c, e, hr, -⟩ := h.N.rows
        cases e
        exact hr
      case assign =>
        intro v W K hK
        gi_wp2
        exact hK
      case body =>
        intro q v W hqk hI ⟨W0, hI0, hle0, hsame, hT⟩ hlt ⟨r, hr⟩ ⟨r', hr'⟩
        have hp := HLN.out q hqk
        obtain ⟨av, cv, rfl, hrv, -⟩ := hT.row'
        obtain ⟨a, c', e, hr2, -⟩ := hI.L.rows
        cases e
        rcases hr2 with h0 | ⟨bl, rfl, hrows⟩
        · omega
        obtain ⟨ac, kc, c1, hrow, -⟩ := hrows q hqk
        have d3 := hI.y3.cell
        have d6 := hI.y6.cell
        have d15 := hI.y15.cell
        have e15 := hI.y15.frozen
        have hnl : NotCells (w9.heap.size + 1) W := hI.nc
        have hnd : NotCells w9.heap.size W := fun cs t fr he => by rw [hr'] at he; cases he
        have HI := Lib.hid hI
        have HRV := Lib.hid hrv
        have HRW := Lib.hid hrow
        have hsz := hI.size
        obtain ⟨Lq, hLq⟩ : ∃ Lq, (out f n).ln q = Lq := ⟨_, rfl⟩
        rw [hLq] at hp c1 HRV HRW
        have t1 : decide (k ≤ q) = false := by simp; omega
        have q1 : (0 : Int) ≤ (q : Int) := by omega
        have q2 : (q : Int) < (k : Int) := by omega
        clear hT hsame hI0 hle0 hrows hI hrv hrow hr hr'
        rw [hLq]
        clear hLq
        gi_wp2_with fail
        refine ⟨trivial, (CallsIn.inRound _ (callsIn_wide.2 (same_rows W (by omega) HRV.out HRW.out))).mono ?_⟩
        rintro e w10 ⟨rfl, hb⟩
        have hI10 := HI.out.below hb hlt
        have hN := hI10.next
        have g3 := hI10.y3.cell
        have g15 := hI10.y15.cell
        have f15 := hI10.y15.frozen
        have g3' := hN.y3.cell
        have g15' := hN.y15.cell
        have far : ((w10.setCell ⟨w7.heap.size, 0, none⟩ (.int .i64 ((q + 1 : Nat) : Int))).heap[w9.heap.size + 1]? = W.heap[w9.heap.size + 1]? ∧ (w10.setCell ⟨w7.heap.size, 0, none⟩ (.int .i64 ((q + 1 : Nat) : Int))).heap[w9.heap.size]? = W.heap[w9.heap.size]?) := by
          refine ⟨(heap_setCell_other _ _ _ _ (by show w9.heap.size + 1 ≠ w7.heap.size; omega)).trans (hb.block _ hlt), (heap_setCell_other _ _ _ _ (by show w9.heap.size ≠ w7.heap.size; omega)).trans (hb.block _ (by omega))⟩
        rw [Int.natCast_add, Int.natCast_one] at hN g3' g15' far
        have HN := Lib.hid hN
        have HFar := Lib.hid far
        clear hN hI10 hb far HI HRV HRW c1 d3 d6 d15 e15 hnl hnd t1
        by_cases hqs : (q : Int) + 1 = st
        · subst hqs
          gi_wp2_with fail
          exact ⟨HFar.out, ⟨rfl, by omega⟩, HN.out⟩
        · gi_wp2_with fail
          exact ⟨HFar.out, HN.out⟩
      case done =>
        intro W hI hD
        have hn5 := hI.n5
        have hn6 := hI.n6
        have hn8 := hI.n8
        have hsz := hI.size
        obtain ⟨u, w10, hrun, hcall⟩ := join hI.L hI.M (by omega) (by omega) (by omega) (by omega) (fun c hc => by have := HLN.out c hc; omega)
        have HCall := Lib.hid hcall
        have d3 := hI.y3.cell
        have d6 := hI.y6.cell
        have d15 := hI.y15.cell
        have HI := Lib.hid hI
        have HD := Lib.hid hD
        clear hcall hI hD
        go_wp2_with (at_builtin; go_loud (refine wpList_append_run (.tmp 153) (.tmp 154) 35 rfl (by rfl) (by rfl) (by rfl) hrun ?_))
        refine HCall.out.mono ?_
        rintro e w11 ⟨rfl, hBf⟩
        have z4 : Boxed w11 (w.heap.size + 1) 4 (.bool false) := (hBf.bel.block (w.heap.size + 1) (by omega)).trans HI.out.y4
        have z4c := z4.cell
        have z4f := z4.frozen
        have hDl : w9.heap.size < W.heap.size := (Array.getElem?_eq_some_iff.1 HD.out).1
        have hD11 : w11.heap[w9.heap.size]? = some (.deferred (some [])) := (hBf.far _ hDl (fun cs t fr he => by rw [HD.out] at he; cases he)).trans HD.out
        have hb11 : Below w.heap.size w w11 := HI.out.bel.trans (hBf.bel.mono (by omega))
        have HD11 := Lib.hid hD11
        have HB11 := Lib.hid hb11
        have HZ4 := Lib.hid z4
        clear HI HD HCall hrun hD11 hb11 z4 d3 d6 d15 hBf
        go_wp2_with fail
        obtain ⟨Z, hZ⟩ : ∃ Z, w11.setCell ⟨w.heap.size + 1, 0, none⟩ (.bool true) = Z := ⟨_, rfl⟩
        have HZ := Lib.hid hZ
        rw [hZ]
        have hDZ : Z.heap[w9.heap.size]? = some (.deferred (some [])) := by
          rw [← HZ.out, heap_setCell_other _ _ _ _ (by show w9.heap.size ≠ w.heap.size + 1; omega)]; exact HD11.out
        have hZ4 : Boxed Z (w.heap.size + 1) 4 (.bool true) := by rw [← HZ.out]; exact HZ4.out.set _
        have hBZ : Below w.heap.size w Z := by rw [← HZ.out]; exact HB11.out.setCell (p := ⟨w.heap.size + 1, 0, none⟩) (by show w.heap.size ≤ w.heap.size + 1; omega) _
        clear hZ
        have oth : ∀ b, b ≠ w9.heap.size → (Z.putObj w9.heap.size (.deferred none)).heap[b]? = Z.heap[b]? := fun b hb => World.putObj_heap_other hb
        have k1 : (Z.putObj w9.heap.size (.deferred none)).cell? ⟨w.heap.size + 1, 0, none⟩ = some (.bool true) := Boxed.cell ((oth _ (by omega)).trans hZ4)
        refine ⟨by simp, .inl ⟨_, _, rfl, run_takeDeferred hDZ, ?_⟩⟩
        refine ⟨.bool true, by simp [results, Tryd.results4, go_sem, k1], rfl, ?_⟩
        exact hBZ.trans ⟨rfl, rfl, rfl, by simp, fun b hb => oth b (by omega)⟩
      case stop =>
        rintro c q W hqk ⟨⟨rfl, hqs⟩, hI⟩ hD
        refine wpIn_wide.2 ?_
        have hn5 := hI.n5
        have hn6 := hI.n6
        have hn8 := hI.n8
        have hsz := hI.size
        obtain ⟨u, w10, hrun, hcall⟩ := join hI.L hI.M (by omega) (by omega) (by omega) (by omega) (fun c hc => by have := HLN.out c hc; omega)
        have HCall := Lib.hid hcall
        have d3 := hI.y3.cell
        have d6 := hI.y6.cell
        have d15 := hI.y15.cell
        subst hqs
        have HI := Lib.hid hI
        have HD := Lib.hid hD
        clear hcall hI hD
        go_wp2_with (at_builtin; go_loud (refine wpList_append_run (.tmp 153) (.tmp 154) 35 rfl (by rfl) (by rfl) (by rfl) hrun ?_))
        all_goals
          refine HCall.out.mono ?_
          rintro e w11 ⟨rfl, hBf⟩
          have z4 : Boxed w11 (w.heap.size + 1) 4 (.bool false) := (hBf.bel.block (w.heap.size + 1) (by omega)).trans HI.out.y4
          have z4c := z4.cell
          have z4f := z4.frozen
          have hDl : w9.heap.size < W.heap.size := (Array.getElem?_eq_some_iff.1 HD.out).1
          have hD11 : w11.heap[w9.heap.size]? = some (.deferred (some [])) := (hBf.far _ hDl (fun cs t fr he => by rw [HD.out] at he; cases he)).trans HD.out
          have hb11 : Below w.heap.size w w11 := HI.out.bel.trans (hBf.bel.mono (by omega))
          have HD11 := Lib.hid hD11
          have HB11 := Lib.hid hb11
          have HZ4 := Lib.hid z4
          clear HI HD HCall hrun hD11 hb11 z4 d3 d6 d15 hBf
          go_wp2_with fail
          obtain ⟨Z, hZ⟩ : ∃ Z, w11.setCell ⟨w.heap.size + 1, 0, none⟩ (.bool true) = Z := ⟨_, rfl⟩
          have HZ := Lib.hid hZ
          rw [hZ]
          have hDZ : Z.heap[w9.heap.size]? = some (.deferred (some [])) := by
            rw [← HZ.out, heap_setCell_other _ _ _ _ (by show w9.heap.size ≠ w.heap.size + 1; omega)]; exact HD11.out
          have hZ4 : Boxed Z (w.heap.size + 1) 4 (.bool true) := by rw [← HZ.out]; exact HZ4.out.set _
          have hBZ : Below w.heap.size w Z := by rw [← HZ.out]; exact HB11.out.setCell (p := ⟨w.heap.size + 1, 0, none⟩) (by show w.heap.size ≤ w.heap.size + 1; omega) _
          clear hZ
          have oth : ∀ b, b ≠ w9.heap.size → (Z.putObj w9.heap.size (.deferred none)).heap[b]? = Z.heap[b]? := fun b hb => World.putObj_heap_other hb
          have k1 : (Z.putObj w9.heap.size (.deferred none)).cell? ⟨w.heap.size + 1, 0, none⟩ = some (.bool true) := Boxed.cell ((oth _ (by omega)).trans hZ4)
          refine ⟨by simp, .inl ⟨_, _, rfl, run_takeDeferred hDZ, ?_⟩⟩
          refine ⟨.bool true, by simp [results, Tryd.results4, go_sem, k1], rfl, ?_⟩
          exact hBZ.trans ⟨rfl, rfl, rfl, by simp, fun b hb => oth b (by omega)⟩
end Go.Proofs.YtjebnceajpkhmaaDoor
