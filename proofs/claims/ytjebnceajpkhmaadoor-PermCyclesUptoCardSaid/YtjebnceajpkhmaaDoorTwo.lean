/- OwnInts of two lists of lists, one behind the other, is true. -/
import Derived.Test.YtjebnceajpkhmaaDoorOwn
import Derived.Test.YtjebnceajpkhmaaDoorOwn0
namespace Go.Proofs.YtjebnceajpkhmaaDoor
open Go.RowKit

theorem Bf.trans {lo : Nat} {a b c : World} (h : Bf lo a b) (h' : Bf lo b c) : Bf lo a c :=
  ⟨h.bel.trans h'.bel, fun k hk hn => (h'.far k (Nat.lt_of_lt_of_le hk h.bel.size) (not_cells_eq hn (h.far k hk hn))).trans (h.far k hk hn)⟩

theorem LL.ow {lo hi m : Nat} {w : World} {v : Value} {ln : Nat → Nat} {g : Nat → Nat → Int} (h : LL lo hi w v m ln g) (hpos : ∀ c, c < m → 1 ≤ ln c) :
    ∃ bk cp : Nat → Nat, w.ownsRow lo 22 1 v m (hdrs m bk ln cp) ∧ (∀ c, c < m → w.ownsRow lo 3 1 (.slice (some ⟨bk c, 0, none⟩) (ln c) (cp c)) (ln c) (ints (ln c) (g c)) ∧ bk c < hi) ∧ ∀ c d, c < m → d < m → bk c = bk d → c = d := by
  obtain ⟨xs, h1, h2, h3, h4⟩ := h
  have ex : ∀ c, ∃ p : Nat × Nat, c < m → xs[c]? = some (.slice (some ⟨p.1, 0, none⟩) (ln c) p.2) ∧ w.ownsRow lo 3 1 (.slice (some ⟨p.1, 0, none⟩) (ln c) p.2) (ln c) (ints (ln c) (g c)) ∧ p.1 < hi := fun c => by
    by_cases hc : c < m
    · obtain ⟨vc, e1, e2, e3⟩ := h3 c hc
      obtain ⟨b, k, rfl, -, -⟩ := e2.form (hpos c hc)
      exact ⟨(b, k), fun _ => ⟨e1, e2, e3 b rfl⟩⟩
    · exact ⟨(0, 0), fun h => absurd h hc⟩
  obtain ⟨p, hp⟩ := Classical.skolem.1 ex
  refine ⟨fun c => (p c).1, fun c => (p c).2, ?_, fun c hc => (hp c hc).2, fun c d hc hd he => ?_⟩
  · have e : hdrs m (fun c => (p c).1) ln (fun c => (p c).2) = xs := by
      have hl : xs.length = m := by simpa using h1.1
      apply List.ext_getElem?
      intro c
      by_cases hc : c < m
      · rw [hdrs_at _ _ _ hc, (hp c hc).1]
      · rw [List.getElem?_eq_none (by rw [hdrs_len]; omega), List.getElem?_eq_none (by omega)]
    rw [e]; exact h1
  · rcases Nat.decEq c d with hne | he'
    · exact absurd (show (Value.slice (some ⟨(p d).1, 0, none⟩) (ln d) (p d).2).ownBlock = some (p c).1 from congrArg some he.symm) (h4 c d _ _ (p c).1 hne (hp c hc).1 (hp d hd).1 rfl)
    · exact he'

theorem hdrs_add (m k : Nat) (bk1 ln1 cp1 bk2 ln2 cp2 : Nat → Nat) :
    hdrs m bk1 ln1 cp1 ++ hdrs k bk2 ln2 cp2 = hdrs (m + k) (fun c => if c < m then bk1 c else bk2 (c - m)) (fun c => if c < m then ln1 c else ln2 (c - m)) (fun c => if c < m then cp1 c else cp2 (c - m)) := by
  apply List.ext_getElem?
  intro c
  by_cases h1 : c < m
  · rw [List.getElem?_append_left (by rw [hdrs_len]; exact h1), hdrs_at _ _ _ h1, hdrs_at _ _ _ (by omega), if_pos h1, if_pos h1, if_pos h1]
  · rw [List.getElem?_append_right (by rw [hdrs_len]; omega), hdrs_len]
    by_cases h2 : c < m + k
    · rw [hdrs_at _ _ _ (by omega), hdrs_at _ _ _ h2, if_neg h1, if_neg h1, if_neg h1]
    · rw [List.getElem?_eq_none (by rw [hdrs_len]; omega), List.getElem?_eq_none (by rw [hdrs_len]; omega)]

/-- Two lists of lists, one behind the other, in memory of their own: OwnInts of the whole is true. -/
theorem join {lo1 hi1 lo2 hi2 m : Nat} {W : World} {v1 v2 : Value} {ln : Nat → Nat} {g : Nat → Nat → Int} (h1 : LL lo1 hi1 W v1 m ln g) (h2 : LL lo2 hi2 W v2 m ln g) (hb : hi1 ≤ lo2) (hlo : lo1 ≤ lo2) (hW : lo2 ≤ W.heap.size) (hm : m ≤ 1048576) (hln : ∀ c, c < m → 1 ≤ ln c ∧ ln c ≤ 1048576) :
    ∃ u w', (Builtin.append_ #[35, 35] 35 #[v1, v2]).run Tryd.prog W = .ok u w' ∧ Calls Tryd.prog 17 #[u] w' fun e w'' => e = .returned (.bool true) ∧ Bf lo1 W w'' := by
  obtain ⟨i1, hi1', hy0, hy1, hy2⟩ := info_parts info22i
  rcases Nat.eq_zero_or_pos m with rfl | hpos
  · obtain ⟨xs1, r1, -⟩ := h1
    obtain ⟨xs2, r2, -⟩ := h2
    have key : ∀ u w', w'.ownsRow lo1 22 1 u 0 [] → Bf lo1 W w' → Calls Tryd.prog 17 #[u] w' fun e w'' => e = .returned (.bool true) ∧ Bf lo1 W w'' := fun u w' ho hB => by
      obtain ⟨x, c, rfl, hx⟩ : ∃ x c, u = .slice x 0 c ∧ (x = none → c = 0) := by
        rcases ho.2 with ⟨h, -⟩ | ⟨g, cap, cur, h, -⟩
        · exact ⟨_, _, h, fun _ => rfl⟩
        · exact ⟨_, _, h, fun e => by cases e⟩
      exact (own_zero x c w' hx).mono fun e w'' ⟨he, hb⟩ => ⟨he, hB.go (Nat.le_trans (Nat.le_trans hlo hW) hB.bel.size) hb⟩
    have hx1 : xs1 = [] := List.eq_nil_of_length_eq_zero (by simpa using r1.1)
    subst hx1
    rcases r2.2 with ⟨rfl, -⟩ | ⟨b2, c2, cur, rfl, -⟩
    · exact ⟨v1, W, run_append_owned_none (P := Tryd.prog) (w := W) lo1 35 35 22 i1 1 Tryd.underlying35 hi1' v1 0 [] r1, key v1 W r1 (Bf.refl _ _)⟩
    · obtain ⟨v', w', hr, o1, o2, -, -⟩ := run_append_own_at (P := Tryd.prog) W lo1 35 35 22 i1 (.slice none 0 0) 1 24 Tryd.underlying35 hi1' hy0 hy1 hy2 rfl (by decide) v1 0 [] r1 ⟨b2, 0, none⟩ 0 c2 [] rfl (fun j u h => by simp at h) (fun u h => by simp at h) (by decide) (by decide) (by omega)
      refine ⟨v', w', hr, key v' w' (by simpa using o1) ?_⟩
      rcases r1.2 with ⟨rfl, -⟩ | ⟨b1, c1, cur1, rfl, hb1, hc1, -⟩
      · exact ⟨(Below.refl _ _).grown o2 (by omega) (fun k hk => by cases hk), fun b hb hn => o2.block b hb (by simp [Value.ownBlock])⟩
      · exact (Bf.refl _ _).grown o2 ⟨_, _, hc1⟩ (by omega) hb1
  · obtain ⟨bk1, cp1, r1, e1, a1⟩ := h1.ow (fun c hc => (hln c hc).1)
    obtain ⟨bk2, cp2, r2, e2, a2⟩ := h2.ow (fun c hc => (hln c hc).1)
    obtain ⟨b1, c1, rfl, lb1, -⟩ := r1.form hpos
    obtain ⟨b2, c2, rfl, -, -⟩ := r2.form hpos
    obtain ⟨gb, cap, w', hr, o1, o2, o3, o4⟩ := run_append_lies (P := Tryd.prog) W 35 35 lo1 22 i1 (.slice none 0 0) 1 24 Tryd.underlying35 hi1' hy0 hy1 hy2 rfl (by decide) _ m _ r1 ⟨b2, 0, none⟩ m c2 (hdrs m bk2 ln cp2) (by rw [hdrs_len]; omega) (r2.cells (g := b2) rfl)
      (fun u hu => by obtain ⟨_, _, rfl⟩ := List.mem_map.1 hu; rfl) hpos (by unfold maxLen; omega) (by omega) (by omega) _ rfl
    have hB : Bf lo1 W w' := by
      obtain ⟨cs, hcs⟩ := row_kind r1
      exact (Bf.refl _ _).grown o2 ⟨cs, 22, hcs⟩ (by omega) lb1
    refine ⟨_, w', hr, (own_some lo1 (m + m) gb cap (fun c => if c < m then bk1 c else bk2 (c - m)) (fun c => if c < m then ln c else ln (c - m)) (fun c => if c < m then cp1 c else cp2 (c - m)) (fun c => if c < m then g c else g (c - m)) w' (by omega) (by omega) (fun c hc => ?_) ⟨?_, fun c hc => ?_, fun c d hc hd he => ?_⟩ (by have := o2.size; omega)).mono fun e w'' ⟨he, hb⟩ => ⟨he, hB.trans hb⟩⟩
    · show (if c < m then ln c else ln (c - m)) ≤ 1048576
      split
      · exact (hln c (by omega)).2
      · exact (hln (c - m) (by omega)).2
    · rw [hdrs_add] at o1; exact o1
    · have kp : ∀ {B : Nat} {u : Value} {k : Nat} {ys : List Value}, lo1 ≤ B → W.ownsRow B 3 1 u k ys → w'.ownsRow lo1 3 1 u k ys := fun hB' ho => own_mono (World.ownsRow.kept ho o2 (kinds_ne ho r1 (by decide))) hB'
      by_cases h : c < m
      · simp only [if_pos h]; exact kp (Nat.le_refl _) (e1 c h).1
      · simp only [if_neg h]; exact kp hlo (e2 (c - m) (by omega)).1
    · have l2 : ∀ k, k < m → lo2 ≤ bk2 k := fun k hk => (World.ownsRow.lt (e2 k hk).1 _ rfl).1
      by_cases h : c < m <;> by_cases h' : d < m <;> simp only [h, h', if_true, if_false] at he
      · exact a1 c d h h' he
      · have := (e1 c h).2; have := l2 (d - m) (by omega); omega
      · have := (e1 d h').2; have := l2 (c - m) (by omega); omega
      · have := a2 (c - m) (d - m) (by omega) (by omega) he; omega
end Go.Proofs.YtjebnceajpkhmaaDoor
