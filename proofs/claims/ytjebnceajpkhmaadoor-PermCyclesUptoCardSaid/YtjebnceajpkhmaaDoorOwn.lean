/- OwnInts of lists that own their memory is true. -/
import Derived.Test.YtjebnceajpkhmaaDoorStay
namespace Go.Proofs.YtjebnceajpkhmaaDoor
open Go.RowKit

/-- What is marked up to place j of list i. -/
def Gm (g : Nat → Nat → Int) (i j : Nat) (c t : Nat) : Int := if c < i ∨ (c = i ∧ t < j) then markv c t else g c t
theorem Gm_step (g : Nat → Nat → Int) (k j d s : Nat) (h : ¬ (d = k ∧ s = j)) : Gm g k (j + 1) d s = Gm g k j d s := by
  have e : (d < k ∨ (d = k ∧ s < j + 1)) ↔ (d < k ∨ (d = k ∧ s < j)) := by omega
  unfold Gm
  simp only [e]
theorem Gm_row (g : Nat → Nat → Int) (k j c t : Nat) (h : c = k → t < j) : Gm g (k + 1) 0 c t = Gm g k j c t := by
  have e : (c < k + 1 ∨ (c = k + 1 ∧ t < 0)) ↔ (c < k ∨ (c = k ∧ t < j)) := by omega
  unfold Gm
  simp only [e]
theorem Ow.hdr {lo M : Nat} {w : World} {bl cl : Nat} {bk ln cp : Nat → Nat} {g : Nat → Nat → Int} (h : Ow lo M w (.slice (some ⟨bl, 0, none⟩) M cl) bk ln cp g) {c : Nat} (hc : c < M) : w.cell? ⟨bl, c, none⟩ = some (.slice (some ⟨bk c, 0, none⟩) (ln c) (cp c)) := by
  rw [World.ownsRow.cellAt h.row c (by omega), hdrs_at _ _ _ hc]
theorem Ow.num {lo M : Nat} {w : World} {v : Value} {bk ln cp : Nat → Nat} {g : Nat → Nat → Int} (h : Ow lo M w v bk ln cp g) {c t : Nat} (hc : c < M) (ht : t < ln c) : w.cell? ⟨bk c, t, none⟩ = some (.int .i64 (g c t)) ∧ w.frozen? ⟨bk c, t, none⟩ = false := by
  refine ⟨?_, World.ownsRow.frozenAt (h.each c hc) t⟩
  rw [World.ownsRow.cellAt (h.each c hc) t (by omega), ints_at _ _ _ ht]

/-- What the looking loops keep. -/
structure Lk (lo M bl cl gb cg : Nat) (bk ln cp bk' cp' : Nat → Nat) (w wr : World) : Prop where
  row : wr.ownsRow lo 22 1 (.slice (some ⟨bl, 0, none⟩) M cl) M (hdrs M bk ln cp)
  kept : ∀ c, c < M → ∀ t, t < ln c → wr.cell? ⟨bk c, t, none⟩ = some (.int .i64 (markv c t))
  grown : Ow lo M wr (.slice (some ⟨gb, 0, none⟩) M cg) bk' (fun c => ln c + 80) cp' (fun c t => markv c t)
  bel : Bf lo w wr
  lo : lo ≤ wr.heap.size
theorem Gr.looks {lo M bl cl gb cg : Nat} {bk ln cp : Nat → Nat} {w wr : World} (h : Gr lo M bl cl gb cg 80 0 bk ln cp w wr) : ∃ bk' cp', Lk lo M bl cl gb cg bk ln cp bk' cp' w wr := by
  obtain ⟨h1, h2, h3, h4, ⟨bk', cp', h5, h6⟩, h7, h8⟩ := h
  exact ⟨bk', cp', h1, h2, by simpa using h5, h7, h8⟩
theorem Lk.go {lo M bl cl gb cg : Nat} {bk ln cp bk' cp' : Nat → Nat} {w wr wr' : World} (h : Lk lo M bl cl gb cg bk ln cp bk' cp' w wr) (hb : Below wr.heap.size wr wr') : Lk lo M bl cl gb cg bk ln cp bk' cp' w wr' :=
  ⟨own_below h.row hb, fun c hc t ht => (hb.cell (cell_lt (h.kept c hc t ht))).trans (h.kept c hc t ht), h.grown.below hb, h.bel.go h.lo hb, Nat.le_trans h.lo hb.size⟩

set_option maxRecDepth 100000 in
set_option maxHeartbeats 4000000 in
theorem own_some (lo M bl cl : Nat) (bk ln cp : Nat → Nat) (g : Nat → Nat → Int) (w : World) (hM : 1 ≤ M) (hM2 : M ≤ 2097152) (hln : ∀ c, c < M → ln c ≤ 1048576) (h : Ow lo M w (.slice (some ⟨bl, 0, none⟩) M cl) bk ln cp g) (hlo : lo ≤ w.heap.size) :
    Calls Tryd.prog 17 #[.slice (some ⟨bl, 0, none⟩) M cl] w fun e w' => e = .returned (.bool true) ∧ Bf lo w w' := by
  obtain ⟨i0, hi, hz0, hz1, hz2⟩ := info_parts info3i
  have HZ0 := Lib.hid hz0
  have HZ1 := Lib.hid hz1
  have HZ2 := Lib.hid hz2
  obtain ⟨i1, hi1, hy0, hy1, hy2⟩ := info_parts info22i
  have HY0 := Lib.hid hy0
  have HY1 := Lib.hid hy1
  have HY2 := Lib.hid hy2
  have HO := Lib.hid h
  have HL := Lib.hid hln
  clear hz0 hz1 hz2 hy0 hy1 hy2 h hln
  go_enter Tryd.func17, Tryd.ntmps17
  go_wp2_with fail
  go_loopw [15] (fun i wr => ∃ k : Nat, k ≤ M ∧ i = .int .i64 k ∧ Ow lo M wr (.slice (some ⟨bl, 0, none⟩) M cl) bk ln cp (Gm g k 0) ∧ Bf lo w wr) (fun i _ => M - (intOf i).toNat)
  case atStart => exact ⟨0, by omega, rfl, HO.out.eqs (fun c _ t _ => by simp [Gm]), Bf.refl _ _⟩
  case round =>
    obtain ⟨k, hk, rfl, hO, hB⟩ := hrel
    rename World => w5
    have HOk := Lib.hid hO
    have HBk := Lib.hid hB
    clear hO hB
    by_cases hlt : k < M
    · have c1 := HOk.out.hdr hlt
      have q1 : (0 : Int) ≤ (k : Int) := by omega
      have q2 : (k : Int) < (M : Int) := by omega
      go_wp2_with fail
      clear c1
      go_loopw [22] (fun i wr => ∃ j : Nat, j ≤ ln k ∧ i = .int .i64 j ∧ Ow lo M wr (.slice (some ⟨bl, 0, none⟩) M cl) bk ln cp (Gm g k j) ∧ Bf lo w wr) (fun i _ => ln k - (intOf i).toNat)
      case atStart => exact ⟨0, by omega, rfl, HOk.out, HBk.out⟩
      case round =>
        obtain ⟨j, hj, rfl, hO, hB⟩ := hrel
        have HOj := Lib.hid hO
        have HBj := Lib.hid hB
        have hlk := HL.out k hlt
        clear hO hB
        by_cases hjt : j < ln k
        · obtain ⟨c1, c2⟩ := HOj.out.num hlt hjt
          have q3 : (0 : Int) ≤ (j : Int) := by omega
          have q4 : (j : Int) < (ln k : Int) := by omega
          go_wp2_with (go_at_call 26; refine (mark_any _ _ _).mono ?_)
          rintro e w2 ⟨rfl, rfl⟩
          generalize hmv : markv (k : Int) (j : Int) = mv
          have HMV := Lib.hid hmv
          clear hmv
          go_wp2_with fail
          go_roundw
          case rel =>
            refine ⟨j + 1, by omega, by go_num, HOj.out.store hlt ?_ ?_, HBj.out.setCell (p := ⟨bk k, j, none⟩) (HOj.out.lt hlt).1 _⟩
            · rw [Gm, if_pos (.inr ⟨rfl, by omega⟩)]; exact HMV.out
            · exact fun d s hds => Gm_step g k j d s hds
          case measure => simp [intOf]; omega
        · go_wp2_with fail
          go_roundw
          case rel =>
            exact ⟨k + 1, by omega, by go_num, HOj.out.eqs (fun c hc t ht => Gm_row g k j c t (fun e => by subst e; omega)), HBj.out⟩
          case measure => simp [intOf]; omega
    · obtain rfl : k = M := by omega
      go_wp2_with (at_builtin; go_loud (refine wpList_append_lies _ rfl (.tmp 33) (.tmp 34) 35 rfl w5.heap.size 22 i1 (.slice none 0 0) 1 24 Tryd.underlying35 hi1 HY0.out HY1.out HY2.out rfl (by decide) (.slice (some ⟨w5.heap.size, 0, none⟩) 0 0) 0 [] rfl (World.ownsRow_made w5 #[] 0 (Nat.le_refl _) (by unfold maxLen; omega) rfl) ⟨bl, 0, none⟩ k cl (hdrs k bk ln cp) rfl (by rw [hdrs_len]; omega) ?cells ?one (by omega) (by unfold maxLen; omega) (by omega) (by simp) _ rfl ?_))
      case cells =>
        intro j u hu
        have hj : j < k := by have := (List.getElem?_eq_some_iff.1 hu).1; rwa [hdrs_len] at this
        have h1 := (HOk.out.alloc (.cells #[] 22)).hdr hj
        rw [hdrs_at _ _ _ hj] at hu
        cases hu
        cases j <;> simpa [Addr.add] using h1
      case one =>
        intro u hu
        obtain ⟨_, _, rfl⟩ := List.mem_map.1 hu
        rfl
      intro gb capg w6 hown hgrow hgn hgl
      have hgb : w5.heap.size ≤ gb := by
        rcases hgn with e | e
        · cases e; exact Nat.le_refl _
        · rw [e]; simp
      have hB6 : Below w5.heap.size w5 w6 := ((Below.refl _ _).alloc (Nat.le_refl _) _).grown hgrow (by simp) (by intro b hb; cases hb; exact Nat.le_refl _)
      have hO6 := HOk.out.below hB6
      have hlo6 : lo ≤ w5.heap.size := by have := HBk.out.bel.size; omega
      have hG6 : Ow lo k w6 (.slice (some ⟨gb, 0, none⟩) k capg) bk ln cp (Gm g k 0) := by
        refine ⟨?_, hO6.each, hO6.apart⟩
        have := own_mono hown hlo6
        simpa using this
      have hBw : Bf lo w w6 := HBk.out.go hlo6 hB6
      have HO6 := Lib.hid hO6
      have HG6 := Lib.hid hG6
      have HB6 := Lib.hid hBw
      have HGB := Lib.hid hgb
      clear hown hgrow hgn hgl hgb hB6 hO6 hG6 hBw hlo6
      have hGr : Gr lo k bl cl gb capg 0 0 bk ln cp w w6 := by
        refine ⟨HO6.out.row, fun c hc t ht => ?_, fun c hc => HO6.out.kind hc, ?_, ⟨bk, cp, ?_, HO6.out.apart⟩, HB6.out, by have := HB6.out.bel.size; omega⟩
        · rw [(HO6.out.num hc ht).1, Gm, if_pos (.inl hc)]
        · have h1 : bl < w5.heap.size := (World.ownsRow.lt HOk.out.row _ rfl).2
          have h2 := HGB.out
          omega
        · have e : (fun c => ln c + 0 + if c < 0 then 1 else 0) = ln := by funext c; simp
          rw [e]
          exact HG6.out.eqs fun c hc t ht => by rw [Gm, if_pos (.inl hc)]
      have HGr := Lib.hid hGr
      clear hGr
      go_wp2_with fail
      go_loopw [7] (fun i wr => ∃ q : Nat, q ≤ 80 ∧ i = .int .i64 q ∧ Gr lo k bl cl gb capg q 0 bk ln cp w wr) (fun i _ => 80 - (intOf i).toNat)
      case atStart => exact ⟨0, by omega, rfl, HGr.out⟩
      case round =>
        obtain ⟨q, hq, rfl, hG⟩ := hrel
        have HG := Lib.hid hG
        clear hG
        by_cases hqt : q < 80
        · have hd : decide ((q : Int) < 80) = true := by simp; omega
          go_wp2_with fail
          clear hd
          go_loopw [42] (fun i wr => ∃ j : Nat, j ≤ k ∧ i = .int .i64 j ∧ Gr lo k bl cl gb capg q j bk ln cp w wr) (fun i _ => k - (intOf i).toNat)
          case atStart => exact ⟨0, by omega, rfl, HG.out⟩
          case round =>
            obtain ⟨j, hj, rfl, hG2⟩ := hrel
            have HG2 := Lib.hid hG2
            clear hG2
            by_cases hjt : j < k
            · obtain ⟨bk', cp', hOw, hap⟩ := HG2.out.grown
              have c1 := hOw.hdr hjt
              have HOw := Lib.hid hOw
              have HAp := Lib.hid hap
              clear hOw hap
              have q1 : (0 : Int) ≤ (j : Int) := by omega
              have q2 : (j : Int) < (k : Int) := by omega
              rename World => w7
              have hlj := HL.out j hjt
              have each0 := HOw.out.each j hjt
              have hne : (if j < j then 1 else 0 : Nat) = 0 := by simp
              simp only [hne, Nat.add_zero] at each0 c1
              have HEach := Lib.hid each0
              have f1 : w7.frozen? ⟨gb, j, none⟩ = false := World.ownsRow.frozenAt HOw.out.row j
              clear each0 hne
              have HB7 : lo ≤ w7.heap.size := by have := HG2.out.bel.bel.size; omega
              have hgl7 : gb < w7.heap.size := cell_lt c1
              generalize hmv : markv (j : Int) ((ln j : Int) + (q : Int)) = mv
              have HMV := Lib.hid hmv
              clear hmv
              have hmk : ∀ W : World, Calls Tryd.prog 26 #[.int .i64 (j : Int), .int .i64 ((ln j : Int) + (q : Int))] W fun e w' => e = .returned (.int .i64 mv) ∧ w' = W := fun W => by
                rw [← HMV.out]; exact mark_any _ _ W
              go_wp2_with fail
              refine wp_region_last2 (S := fun w' => w'.cell? ⟨gb, j, none⟩ = some (.slice (some ⟨bk' j, 0, none⟩) (ln j + q) (cp' j))) (by simp) (by kernel_rfl) (by kernel_rfl) c1 (fun hHeld => ?_)
              dsimp only [List.dropLast, List.getLast, List.length, Nat.reduceAdd]
              rw [show Array.replicate 12 false = #[false, false, false, false, false, false, false, false, false, false, false, false] from rfl]
              refine wpAnyH_take (i := 0) (v := ?v0) rfl (by kernel_rfl) (by kernel_rfl) (by kernel_rfl) (fun _ _ _ h => h) (Or.inl ⟨by rfl, ?h0⟩) hHeld ?r0
              case h0 => intro w hSw; (try dsimp only at hSw); go_simp; (try with_reducible rfl)
              simp only [Act.put, List.setIfInBounds_toArray, List.set_cons_zero]
              refine wpAnyH_take (i := 1) (v := ?v1) rfl (by kernel_rfl) (by kernel_rfl) (by kernel_rfl) (fun _ _ _ h => h) (Or.inl ⟨by rfl, ?h1⟩) hHeld ?r1
              case h1 => intro w hSw; (try dsimp only at hSw); go_simp; (try with_reducible rfl)
              simp only [Act.put, List.setIfInBounds_toArray, List.set_cons_zero, List.set_cons_succ]
              refine wpAnyH_take (i := 2) (v := ?v2) rfl (by kernel_rfl) (by kernel_rfl) (by kernel_rfl) (fun _ _ _ h => h) (Or.inl ⟨by rfl, ?h2⟩) hHeld ?r2
              case h2 => intro w hSw; (try dsimp only at hSw); go_simp; (try with_reducible rfl)
              simp only [Act.put, List.setIfInBounds_toArray, List.set_cons_zero, List.set_cons_succ]
              refine wpAnyH_take (i := 3) (v := ?v3) rfl (by kernel_rfl) (by kernel_rfl) (by kernel_rfl) (fun _ _ _ h => h) (Or.inl ⟨by rfl, ?h3⟩) hHeld ?r3
              case h3 => intro w hSw; (try dsimp only at hSw); go_simp; (try with_reducible rfl)
              simp only [Act.put, List.setIfInBounds_toArray, List.set_cons_zero, List.set_cons_succ]
              refine wpAnyH_take (i := 4) (v := ?v4) rfl (by kernel_rfl) (by kernel_rfl) (by kernel_rfl) (fun _ _ _ h => h) (Or.inl ⟨by rfl, ?h4⟩) hHeld ?r4
              case h4 => intro w hSw; (try dsimp only at hSw); go_simp; (try with_reducible rfl)
              simp only [Act.put, List.setIfInBounds_toArray, List.set_cons_zero, List.set_cons_succ]
              refine wpAnyH_take (i := 5) (v := ?v5) rfl (by kernel_rfl) (by kernel_rfl) (by kernel_rfl) (fun _ _ _ h => h) (Or.inl ⟨by rfl, ?h5⟩) hHeld ?r5
              case h5 => intro w hSw; (try dsimp only at hSw); go_simp; (try with_reducible rfl)
              simp only [Act.put, List.setIfInBounds_toArray, List.set_cons_zero, List.set_cons_succ]
              refine wpAnyH_take (i := 6) (v := ?v6) rfl (by kernel_rfl) (by kernel_rfl) (by kernel_rfl) (fun _ _ _ h => h) (Or.inl ⟨by rfl, ?h6⟩) hHeld ?r6
              case h6 => intro w hSw; (try dsimp only at hSw); go_simp; (try with_reducible rfl)
              simp only [Act.put, List.setIfInBounds_toArray, List.set_cons_zero, List.set_cons_succ]
              refine wpAnyH_take (i := 7) (v := ?v7) rfl (by kernel_rfl) (by kernel_rfl) (by kernel_rfl) (fun _ _ _ h => h) (Or.inl ⟨by rfl, ?h7⟩) hHeld ?r7
              case h7 => intro w hSw; (try dsimp only at hSw); go_simp; (try with_reducible rfl)
              simp only [Act.put, List.setIfInBounds_toArray, List.set_cons_zero, List.set_cons_succ]
              refine wpAnyH_ready (rs := [8]) (by kernel_rfl) (by simp) ?_
              refine AllReadyH.cons rfl (fun K hK => ?_) AllReadyH.nil
              go_simp
              refine (hmk _).mono ?_
              rintro e w' ⟨rfl, rfl⟩
              refine hK.out _ _ hHeld (fun _ => ?_)
              clear hK K
              simp only [List.setIfInBounds_toArray, List.set_cons_zero, List.set_cons_succ]
              refine wpAnyH_ready (rs := [9]) (by kernel_rfl) (by simp) ?_
              refine AllReadyH.cons rfl (fun K hK => ?_) AllReadyH.nil
              go_simp
              refine hK.out _ _ ((((Below.refl _ _).alloc (Nat.le_refl _) _).cell (p := ⟨gb, j, none⟩) hgl7).trans c1) (fun hHeld => ?_)
              clear hK K
              simp only [List.setIfInBounds_toArray, List.set_cons_zero, List.set_cons_succ]
              refine wpAnyH_ready (rs := [10]) (by kernel_rfl) (by simp) ?_
              refine AllReadyH.cons rfl (fun K hK => ?_) AllReadyH.nil
              have hB0 : Below w7.heap.size w7 (w7.alloc (.cells #[.int .i64 mv] 3)).drew := ((Below.refl _ _).alloc (Nat.le_refl _) _).drew
              refine step_append_stays (w7.alloc (.cells #[.int .i64 mv] 3)).drew (by rfl) (.tmp 55) (.tmp 59) 22 (by rfl) lo 3 i0 (.int .i64 0) 8 Tryd.underlying22 hi HZ0.out HZ1.out HZ2.out rfl (bk' j) (ln j + q) (cp' j) (ints (ln j + q) (fun t => markv (j : Int) (t : Int))) (by rfl) (own_below HEach.out hB0) ⟨w7.heap.size, 0, none⟩ 1 1 [.int .i64 mv] (by rfl) rfl (cell_one_new _ _ _) (ints_oneCell .i64 [mv]) (by decide) (by unfold maxLen; omega) (by omega) (Nat.le_trans HB7 hB0.size) _ rfl ?_
              intro gn cn w8 hown8 hgrow8 hgn8 hgl8 hst8 hk8
              have hne7 : gb ≠ bk' j := by
                obtain ⟨cs, hcs⟩ := row_kind HOw.out.row
                exact kind_ne ⟨cs, hcs⟩ (row_kind HEach.out) (by decide)
              have c8 : w8.cell? ⟨gb, j, none⟩ = some (.slice (some ⟨bk' j, 0, none⟩) (ln j + q) (cp' j)) := (World.cell?_of_block (hgrow8.block gb (by simp; omega) (by simpa using hne7))).trans ((hB0.cell (p := ⟨gb, j, none⟩) hgl7).trans c1)
              have f8 : w8.frozen? ⟨gb, j, none⟩ = false := (World.frozen?_of_block (hgrow8.block gb (by simp; omega) (by simpa using hne7))).trans ((hB0.frozen (p := ⟨gb, j, none⟩) hgl7).trans f1)
              have hGr' := HG2.out.step hjt HOw.out HAp.out hB0 (by rw [show markv (j : Int) ((ln j + q : Nat) : Int) = mv from HMV.out]; exact hown8) hgrow8 hgn8 hst8 hk8
              have HGr' := Lib.hid hGr'
              clear hGr' hgn8 hgl8 hst8 hk8 hown8 hgrow8
              refine hK.out _ _ c8 (fun hHeld => ?_)
              clear hK K
              simp only [Act.put, List.setIfInBounds_toArray, List.set_cons_zero, List.set_cons_succ]
              refine wpAnyH_take (i := 11) (v := ?v11) rfl (by kernel_rfl) (by kernel_rfl) (by kernel_rfl) (fun _ _ _ h => h) (Or.inl ⟨by rfl, ?h11⟩) hHeld ?r11
              case h11 => intro w hSw; (try dsimp only at hSw); go_simp; (try with_reducible rfl)
              simp only [Act.put, List.setIfInBounds_toArray, List.set_cons_zero, List.set_cons_succ]
              refine wpAnyH_done (by kernel_rfl) ?_ _
              simp only [lastQ]
              go_wp2_with fail
              go_roundw
              case rel =>
                exact ⟨j + 1, by omega, by go_num, by simpa using HGr'.out⟩
              case measure => simp [intOf]; omega
            · obtain rfl : j = k := by omega
              go_wp2_with fail
              go_roundw
              case rel =>
                exact ⟨q + 1, by omega, by go_num, HG2.out.round⟩
              case measure => simp [intOf]; omega
        · obtain rfl : q = 80 := by omega
          go_wp2_with fail
          obtain ⟨bk', cp', hL⟩ := HG.out.looks
          have HLk := Lib.hid hL
          clear hL HG
          go_loopw [65] (fun i wr => ∃ x : Nat, x ≤ k ∧ i = .int .i64 x ∧ Lk lo k bl cl gb capg bk ln cp bk' cp' w wr) (fun i _ => k - (intOf i).toNat)
          case atStart => exact ⟨0, by omega, rfl, HLk.out⟩
          case round =>
            obtain ⟨x, hx, rfl, hL⟩ := hrel
            have HL1 := Lib.hid hL
            clear hL HLk
            rename World => w7
            by_cases hxt : x < k
            · have c1 : w7.cell? ⟨gb, x, none⟩ = some (.slice (some ⟨bk' x, 0, none⟩) (ln x + 80) (cp' x)) := HL1.out.grown.hdr hxt
              have q1 : (0 : Int) ≤ (x : Int) := by omega
              have q2 : (x : Int) < (k : Int) := by omega
              have hlx := HL.out x hxt
              have hd : decide ((x : Int) < (k : Int)) = true := by simp; omega
              go_wp2_with fail
              clear hd c1
              go_loopw [72] (fun i wr => ∃ y : Nat, y ≤ ln x + 80 ∧ i = .int .i64 y ∧ Lk lo k bl cl gb capg bk ln cp bk' cp' w wr) (fun i _ => ln x + 80 - (intOf i).toNat)
              case atStart => exact ⟨0, by omega, rfl, HL1.out⟩
              case round =>
                obtain ⟨y, hy, rfl, hL⟩ := hrel
                have HL2 := Lib.hid hL
                clear hL HL1
                rename World => w8
                by_cases hyt : y < ln x + 80
                · have d1 : w8.cell? ⟨bk' x, y, none⟩ = some (.int .i64 (markv (x : Int) (y : Int))) := (HL2.out.grown.num hxt hyt).1
                  have d2 : w8.cell? ⟨bl, x, none⟩ = some (.slice (some ⟨bk x, 0, none⟩) (ln x) (cp x)) := by
                    rw [World.ownsRow.cellAt HL2.out.row x (by omega), hdrs_at _ _ _ hxt]
                  have HD3 := Lib.hid (HL2.out.kept x hxt y)
                  have q3 : (0 : Int) ≤ (y : Int) := by omega
                  have q4 : (y : Int) < ((ln x + 80 : Nat) : Int) := by omega
                  have hd : decide ((y : Int) < ((ln x + 80 : Nat) : Int)) = true := by simp; omega
                  have hmk : ∀ W : World, Calls Tryd.prog 26 #[.int .i64 (x : Int), .int .i64 (y : Int)] W fun e w' => e = .returned (.int .i64 (markv (x : Int) (y : Int))) ∧ w' = W := fun W => mark_any _ _ W
                  generalize markv (x : Int) (y : Int) = mv at d1 HD3 hmk
                  go_wp2_with fail
                  go_quiet ((go_at_call 26; exact Calls.quiet_of_same (hmk _)))
                  have hLq := HL2.out.go (below_drewN (Below.refl _ _) nq)
                  have e1 : (w8.drewN nq).cell? ⟨bk' x, y, none⟩ = some (.int .i64 mv) := ((below_drewN (Below.refl _ _) nq).cell (p := ⟨bk' x, y, none⟩) (cell_lt d1)).trans d1
                  have e2 : (w8.drewN nq).cell? ⟨bl, x, none⟩ = some (.slice (some ⟨bk x, 0, none⟩) (ln x) (cp x)) := ((below_drewN (Below.refl _ _) nq).cell (p := ⟨bl, x, none⟩) (cell_lt d2)).trans d2
                  have HE3 := Lib.hid fun h => ((below_drewN (Below.refl _ _) nq).cell (p := ⟨bk x, y, none⟩) (cell_lt (HD3.out h))).trans (HD3.out h)
                  generalize w8.drewN nq = w9 at *
                  have HLq := Lib.hid hLq
                  clear hLq HL2 d1 d2 HD3 hmk
                  by_cases hyl : y < ln x
                  · have e3 := HE3.out hyl
                    have q5 : (y : Int) < (ln x : Int) := by omega
                    have hd2 : decide ((y : Int) < (ln x : Int)) = true := by simp; omega
                    go_wp2_with fail
                    go_quiet (fail)
                    have hLr := HLq.out.go (below_drewN (Below.refl _ _) nq)
                    clear hd2 e1 e2 e3
                    generalize w9.drewN nq = w10 at *
                    go_wp2_with fail
                    go_roundw
                    case rel => exact ⟨y + 1, by omega, by go_num, hLr⟩
                    case measure => simp [intOf]; omega
                  · have hd2 : decide ((y : Int) < (ln x : Int)) = false := by simp; omega
                    go_wp2_with fail
                    go_quiet (fail)
                    have hLr := HLq.out.go (below_drewN (Below.refl _ _) nq)
                    clear hd2 e1 e2
                    generalize w9.drewN nq = w10 at *
                    go_wp2_with fail
                    go_roundw
                    case rel => exact ⟨y + 1, by omega, by go_num, hLr⟩
                    case measure => simp [intOf]; omega
                · obtain rfl : y = ln x + 80 := by omega
                  go_wp2_with fail
                  go_roundw
                  case rel => exact ⟨x + 1, by omega, by go_num, HL2.out⟩
                  case measure => simp [intOf]; omega
            · obtain rfl : x = k := by omega
              go_wp2_with fail
              go_ret
              exact ⟨rfl, HL1.out.bel⟩
end Go.Proofs.YtjebnceajpkhmaaDoor
