/- An append to a row of the call's own: where the new slice lies, and that the old places stay. -/
import Derived.Test.YtjebnceajpkhmaaDoorOw
import Derived.Test.YtjebnceajpkhmaaDoorLast
import Derived.Deep.AppendLies
import Derived.Maps.AppendAt
namespace Go.Proofs.YtjebnceajpkhmaaDoor
open Go.RowKit

theorem add_b (a : Addr) (n : Nat) : (a.add n).block = a.block := by unfold Addr.add; split <;> rfl

section
variable {P : Program} (w : World)
theorem run_append_stays (t ty : TypeId) (base : Nat) (e : TypeId) (i : TypeInfo) (z : Value) (bytes : Nat) (ht : P.underlying t = some (.slice e)) (hi : P.info? e = some i) (hz : i.zero = some z)
    (hsize : i.size = 1) (hby : i.bytes = bytes) (hzs : z.cells.size = 1)
    (b n k : Nat) (xs : List Value) (hown : w.ownsRow base e 1 (.slice (some ⟨b, 0, none⟩) n k) n xs)
    (ad : Addr) (m c : Nat) (news : List Value) (hl : news.length = m * 1) (hnews : ∀ j u, news[j]? = some u → w.cell? (ad.add j) = some u) (h1 : ∀ u ∈ news, u.oneCell' = true)
    (hm : 0 < m) (h63 : n + m ≤ maxLen) (hbytes : (n + m) * bytes ≤ 140737488355328) (hbase : base ≤ w.heap.size) (H : Nat) (hH : w.heap.size = H) :
    ∃ g cap w', (Builtin.append_ #[t, t] ty #[.slice (some ⟨b, 0, none⟩) n k, .slice (some ad) m c]).run P w = .ok (.slice (some ⟨g, 0, none⟩) (n + m) cap) w' ∧
      w'.ownsRow base e 1 (.slice (some ⟨g, 0, none⟩) (n + m) cap) (n + m) (xs ++ news) ∧ w.grownBy w' (some b) ∧ (g = b ∨ g = H) ∧ g < w'.heap.size ∧
      (∀ j u, xs[j]? = some u → w'.cell? ((⟨b, 0, none⟩ : Addr).add j) = some u) ∧ ∃ cs, w'.heap[b]? = some (.cells cs e (0, 0)) := by
  obtain ⟨g, cap, w', hr, h2, h3, h4, h5⟩ := run_append_lies (P := P) w t ty base e i z 1 bytes ht hi hz hsize hby hzs (by decide) _ n xs hown ad m c news hl hnews h1 hm h63 hbytes hbase H hH
  have holds : ∀ j u, xs[j]? = some u → w.cell? ((⟨b, 0, none⟩ : Addr).add j) = some u := hown.cells (g := b) rfl
  rcases hown.2 with ⟨h, -⟩ | ⟨b', k', cur, hv, hbg, hg, hnc, hcm, hcs, htake⟩
  · cases h
  cases hv
  refine ⟨g, cap, w', hr, h2, h3, ?_, h5, ?_⟩
  · rcases h4 with h | h
    · simp only [Value.ownBlock, Option.some.injEq] at h; exact .inl h.symm
    · exact .inr h
  by_cases hroom : n + m ≤ k
  · have hfit : n * i.size + news.length ≤ cur.size := by rw [hl, hcs, hsize, ← Nat.add_mul]; exact Nat.mul_le_mul_right _ hroom
    have hr' := run_append_room (P := P) w t ty e i ht hi b n k cur hg ad m c news (by rw [hsize]; exact hl) hnews h1 hroom hfit
    rw [hr] at hr'
    obtain rfl : g = b := by simp at hr'; exact hr'.1.1
    refine ⟨fun j u hj => h2.cells (g := g) rfl j u ?_, ?_⟩
    · rw [List.getElem?_append_left (List.getElem?_eq_some_iff.1 hj).1]; exact hj
    · rcases h2.2 with ⟨h, -⟩ | ⟨_, _, cur', hv, -, hg', -⟩
      · cases h
      · cases hv; exact ⟨_, hg'⟩
  · have hsmall : n + m ≤ 9223372036854775807 := by simp only [maxLen] at h63; omega
    have hr' := run_append_grow (P := P) w t ty e i z ht hi hz ⟨b, 0, none⟩ n k xs (by rw [hsize]; exact hown.1) holds ad m c news (by rw [hsize]; exact hl) hnews (by omega) (by omega) (growslice_fits (by omega) (by rw [hby]; exact hbytes))
    rw [hr] at hr'
    have hw : w' = _ := (Result.ok.inj hr').2
    have hb : w'.heap[b]? = w.heap[b]? := by rw [hw]; exact Below.heap_alloc w.drew _ b (Array.getElem?_eq_some_iff.1 hg).1
    refine ⟨fun j u hj => (World.cell?_of_block (by rw [add_b]; exact hb)).trans (holds j u hj), _, hb.trans hg⟩
theorem step_append_stays {ops : Array Oper} {o : Oper} {a : Act} {K : Act → World → Prop} {Q : Exit → Act → World → Prop} {E : Prop} (hgd : o.guard = none) (s x : Operand) (t : TypeId)
    (ho : o.op = .call { callee := .builtin .append, args := #[s, x], argTypes := #[t, t] })
    (base : Nat) (e : TypeId) (i : TypeInfo) (z : Value) (bytes : Nat) (ht : P.underlying t = some (.slice e)) (hi : P.info? e = some i) (hz : i.zero = some z)
    (hsize : i.size = 1) (hby : i.bytes = bytes) (hzs : z.cells.size = 1)
    (b n k : Nat) (xs : List Value) (hs : a.eval s = .slice (some ⟨b, 0, none⟩) n k) (hown : w.ownsRow base e 1 (.slice (some ⟨b, 0, none⟩) n k) n xs)
    (ad : Addr) (m c : Nat) (news : List Value) (hx : a.eval x = .slice (some ad) m c) (hl : news.length = m * 1) (hnews : ∀ j u, news[j]? = some u → w.cell? (ad.add j) = some u) (h1 : ∀ u ∈ news, u.oneCell' = true)
    (hm : 0 < m) (h63 : n + m ≤ maxLen) (hbytes : (n + m) * bytes ≤ 140737488355328) (hbase : base ≤ w.heap.size) (H : Nat) (hH : w.heap.size = H)
    (h : ∀ g cap w', w'.ownsRow base e 1 (.slice (some ⟨g, 0, none⟩) (n + m) cap) (n + m) (xs ++ news) → w.grownBy w' (some b) → (g = b ∨ g = H) → g < w'.heap.size →
      (∀ j u, xs[j]? = some u → w'.cell? ((⟨b, 0, none⟩ : Addr).add j) = some u) → (∃ cs, w'.heap[b]? = some (.cells cs e (0, 0))) → K (a.put o.dst (.slice (some ⟨g, 0, none⟩) (n + m) cap)) w') :
    if Region.wanted o (yielded ops a.tmps) = true then Oper.wp P o a w K Q else E := by
  have hw : Region.wanted o (yielded ops a.tmps) = true := by simp [Region.wanted, hgd]
  rw [if_pos hw]
  obtain ⟨g, cap, w', hr, h2, h3, h4, h5, h6, h7⟩ := run_append_stays (P := P) w t o.type base e i z bytes ht hi hz hsize hby hzs b n k xs hown ad m c news hl hnews h1 hm h63 hbytes hbase H hH
  unfold Oper.wp execOp
  simp only [ho, resolve, invoke, builtin, Sem.run_bind, Sem.run_pure, Result.andThen_ok, List.map_toArray, List.map_cons, List.map_nil, hs, hx, hr]
  exact h g cap w' h2 h3 h4 h5 h6 h7
end

/-- Blocks ahead of lo are as they were, and so is whatever is no row of cells. -/
structure Bf (lo : Nat) (w wr : World) : Prop where
  bel : Below lo w wr
  far : ∀ b, b < w.heap.size → NotCells b w → wr.heap[b]? = w.heap[b]?
theorem Bf.refl (lo : Nat) (w : World) : Bf lo w w := ⟨Below.refl _ _, fun _ _ _ => rfl⟩
theorem not_cells_eq {w w' : World} {b : Nat} (h : NotCells b w) (he : w'.heap[b]? = w.heap[b]?) : NotCells b w' := fun cs t fr h' => h cs t fr (he.symm.trans h')
theorem set_not_cells {w : World} {b : Nat} (h : NotCells b w) (p : Addr) (v : Value) : (w.setCell p v).heap[b]? = w.heap[b]? := by
  by_cases e : b = p.block
  · subst e
    simp only [World.setCell, Array.getElem?_modify, if_true]
    cases hw : w.heap[p.block]? with
    | none => rfl
    | some o =>
      cases o <;> simp
      exact (h _ _ _ hw).elim
  · exact heap_setCell_other _ _ _ _ e
theorem Bf.setCell {lo : Nat} {w wr : World} (h : Bf lo w wr) {p : Addr} (hp : lo ≤ p.block) (v : Value) : Bf lo w (wr.setCell p v) :=
  ⟨h.bel.setCell hp v, fun b hb hn => (set_not_cells (not_cells_eq hn (h.far b hb hn)) p v).trans (h.far b hb hn)⟩
theorem Bf.go {lo : Nat} {w wr wr' : World} (h : Bf lo w wr) (hlo : lo ≤ wr.heap.size) (hb : Below wr.heap.size wr wr') : Bf lo w wr' :=
  ⟨h.bel.trans (hb.mono hlo), fun b hb' hn => (hb.block b (Nat.lt_of_lt_of_le hb' h.bel.size)).trans (h.far b hb' hn)⟩
theorem Bf.grown {lo b0 : Nat} {w wr wr' : World} (h : Bf lo w wr) (hg : wr.grownBy wr' (some b0)) (hk : ∃ cs t, wr.heap[b0]? = some (.cells cs t (0, 0))) (hlo : lo ≤ wr.heap.size) (hb0 : lo ≤ b0) : Bf lo w wr' :=
  ⟨h.bel.grown hg hlo (fun k hk => by cases hk; exact hb0), fun b hb hn => by
    have hn' := not_cells_eq hn (h.far b hb hn)
    obtain ⟨cs, t, hc⟩ := hk
    exact (hg.block b (Nat.lt_of_lt_of_le hb h.bel.size) (fun e => by cases e; exact hn' _ _ _ hc)).trans (h.far b hb hn)⟩

/-- What the growing loops keep: the lists (bk, ln, cp) behind the row at bl, marked; the grown ones behind the row at gb, those ahead of i with one place more. -/
structure Gr (lo M bl cl gb cg k i : Nat) (bk ln cp : Nat → Nat) (w wr : World) : Prop where
  row : wr.ownsRow lo 22 1 (.slice (some ⟨bl, 0, none⟩) M cl) M (hdrs M bk ln cp)
  kept : ∀ c, c < M → ∀ t, t < ln c → wr.cell? ⟨bk c, t, none⟩ = some (.int .i64 (markv c t))
  kind : ∀ c, c < M → ∃ cs, wr.heap[bk c]? = some (.cells cs 3 (0, 0))
  ne : bl ≠ gb
  grown : ∃ bk' cp', Ow lo M wr (.slice (some ⟨gb, 0, none⟩) M cg) bk' (fun c => ln c + k + if c < i then 1 else 0) cp' (fun c t => markv c t) ∧ ∀ c d, c < M → d < M → bk c = bk' d → c = d
  bel : Bf lo w wr
  lo : lo ≤ wr.heap.size
theorem Gr.round {lo M bl cl gb cg k : Nat} {bk ln cp : Nat → Nat} {w wr : World} (h : Gr lo M bl cl gb cg k M bk ln cp w wr) : Gr lo M bl cl gb cg (k + 1) 0 bk ln cp w wr := by
  obtain ⟨h1, h2, h3, h4, ⟨bk', cp', h5, h6⟩, h7, h8⟩ := h
  refine ⟨h1, h2, h3, h4, ⟨bk', cp', ⟨?_, fun c hc => ?_, h5.apart⟩, h6⟩, h7, h8⟩
  · have e : hdrs M bk' (fun c => ln c + (k + 1) + if c < 0 then 1 else 0) cp' = hdrs M bk' (fun c => ln c + k + if c < M then 1 else 0) cp' := by
      unfold hdrs
      refine List.map_congr_left fun c hc => ?_
      have := List.mem_range.1 hc
      simp only [if_pos this, if_neg (Nat.not_lt_zero c), Nat.add_zero, Nat.add_assoc]
    rw [e]; exact h5.row
  · have e := h5.each c hc
    simp only [if_pos hc] at e
    simp only [if_neg (Nat.not_lt_zero c), Nat.add_zero]
    exact e

theorem row_kind {lo : Nat} {w : World} {e : TypeId} {b n c : Nat} {xs : List Value} (h : w.ownsRow lo e 1 (.slice (some ⟨b, 0, none⟩) n c) n xs) : ∃ cs, w.heap[b]? = some (.cells cs e (0, 0)) := by
  rcases h.2 with ⟨h1, -⟩ | ⟨g', cap, cur, h1, -, h2, -⟩
  · cases h1
  · cases h1; exact ⟨_, h2⟩
theorem kind_ne {w : World} {a b : Nat} {e f : TypeId} (ha : ∃ cs, w.heap[a]? = some (.cells cs e (0, 0))) (hb : ∃ cs, w.heap[b]? = some (.cells cs f (0, 0))) (h : e ≠ f) : a ≠ b := by
  rintro rfl
  obtain ⟨c, hc⟩ := ha
  obtain ⟨d, hd⟩ := hb
  rw [hc] at hd
  simp at hd
  exact h hd.2

/-- One list has one place more. -/
theorem Gr.step {lo M bl cl gb cg q j : Nat} {bk ln cp bk' cp' : Nat → Nat} {w w7 W w8 : World} {gn cn : Nat} (h : Gr lo M bl cl gb cg q j bk ln cp w w7) (hj : j < M)
    (hOw : Ow lo M w7 (.slice (some ⟨gb, 0, none⟩) M cg) bk' (fun c => ln c + q + if c < j then 1 else 0) cp' (fun c t => markv c t)) (hap : ∀ c d, c < M → d < M → bk c = bk' d → c = d)
    (hW : Below w7.heap.size w7 W) (hown : w8.ownsRow lo 3 1 (.slice (some ⟨gn, 0, none⟩) (ln j + q + 1) cn) (ln j + q + 1) (ints (ln j + q) (fun t => markv (j : Int) (t : Int)) ++ [.int .i64 (markv (j : Int) ((ln j + q : Nat) : Int))]))
    (hg : W.grownBy w8 (some (bk' j))) (hn : gn = bk' j ∨ gn = W.heap.size) (hst : ∀ t u, (ints (ln j + q) (fun t => markv (j : Int) (t : Int)))[t]? = some u → w8.cell? ((⟨bk' j, 0, none⟩ : Addr).add t) = some u) (hk : ∃ cs, w8.heap[bk' j]? = some (.cells cs 3 (0, 0))) :
    Gr lo M bl cl gb cg q (j + 1) bk ln cp w (w8.setCell ⟨gb, j, none⟩ (.slice (some ⟨gn, 0, none⟩) (ln j + q + 1) cn)) := by
  have hOW := hOw.below hW
  have hrW : W.ownsRow lo 22 1 (.slice (some ⟨bl, 0, none⟩) M cl) M (hdrs M bk ln cp) := own_below h.row hW
  have eachj : W.ownsRow lo 3 1 (.slice (some ⟨bk' j, 0, none⟩) (ln j + q) (cp' j)) (ln j + q) (ints (ln j + q) (fun t => markv (j : Int) (t : Int))) := by
    have := hOW.each j hj
    simpa using this
  have hr8 : w8.ownsRow lo 22 1 (.slice (some ⟨bl, 0, none⟩) M cl) M (hdrs M bk ln cp) := World.ownsRow.kept hrW hg (kinds_ne hrW eachj (by decide))
  have hrg8 : w8.ownsRow lo 22 1 (.slice (some ⟨gb, 0, none⟩) M cg) M (hdrs M bk' (fun c => ln c + q + if c < j then 1 else 0) cp') := World.ownsRow.kept hOW.row hg (kinds_ne hOW.row eachj (by decide))
  have ltW : ∀ c, c < M → bk c < W.heap.size := fun c hc => by
    obtain ⟨cs, hcs⟩ := h.kind c hc
    have := (Array.getElem?_eq_some_iff.1 hcs).1
    have := hW.size
    omega
  have kind8 : ∀ c, c < M → ∃ cs, w8.heap[bk c]? = some (.cells cs 3 (0, 0)) := fun c hc => by
    by_cases e : bk c = bk' j
    · rw [e]; exact hk
    · obtain ⟨cs, hcs⟩ := h.kind c hc
      exact ⟨cs, ((hg.block (bk c) (ltW c hc) (by simpa using e)).trans (hW.block (bk c) (Array.getElem?_eq_some_iff.1 hcs).1)).trans hcs⟩
  have lo8 := hOw.lt hj
  have s1 := hW.size
  have s2 := hg.size
  have s3 := h.lo
  have kgb := row_kind hrg8
  have lgb : lo ≤ gb := (World.ownsRow.lt hOW.row _ rfl).1
  refine ⟨?_, fun c hc t ht => ?_, fun c hc => ?_, h.ne, ⟨fun c => if c = j then gn else bk' c, fun c => if c = j then cn else cp' c, ?_, fun c d hc hd he => ?_⟩, ?_, ?_⟩
  · exact ownsRow_setCell_other hr8 (fun hb => by simp only [Value.ownBlock, Option.some.injEq] at hb; exact h.ne hb) _
  · have hne : bk c ≠ gb := kind_ne (kind8 c hc) kgb (by decide)
    rw [World.cell?_setCell_other _ _ _ _ (fun he => hne (Addr.mk.inj he).1.symm)]
    by_cases e : bk c = bk' j
    · obtain rfl := hap c j hc hj e
      have := hst t _ (ints_at _ _ t (by omega))
      rw [e]
      have ha : (⟨bk' c, 0, none⟩ : Addr).add t = ⟨bk' c, t, none⟩ := by unfold Addr.add; split <;> simp_all
      rwa [ha] at this
    · obtain ⟨cs, hcs⟩ := h.kind c hc
      have hb := (hg.block (bk c) (ltW c hc) (by simpa using e)).trans (hW.block (bk c) (Array.getElem?_eq_some_iff.1 hcs).1)
      exact (World.cell?_of_block hb).trans (h.kept c hc t ht)
  · have hne : bk c ≠ gb := kind_ne (kind8 c hc) kgb (by decide)
    rw [heap_setCell_other _ _ _ _ hne]
    exact kind8 c hc
  · have := Ow.more (bk' := fun c => if c = j then gn else bk' c) (ln' := fun c => ln c + q + if c < j + 1 then 1 else 0) (cp' := fun c => if c = j then cn else cp' c) hOW hj (w' := w8) (g := fun c t => markv c t) ?_ hg ?_ ?_
    · simpa using this
    · simp only [if_true, Nat.lt_succ_self]
      rw [ints_succ _ _ (markv (j : Int) ((ln j + q : Nat) : Int)) rfl]
      exact hown
    · simp only [if_true]
      rcases hn with h | h
      · exact .inl h
      · exact .inr (by omega)
    · intro d hd
      have e : (d < j + 1) ↔ (d < j) := by omega
      simp only [if_neg hd, e, true_and]
  · by_cases ed : d = j
    · subst ed
      simp only [if_true] at he
      rcases hn with h1 | h1
      · exact hap c d hc hd (he.trans h1)
      · have := ltW c hc; omega
    · simp only [if_neg ed] at he
      exact hap c d hc hd he
  · obtain ⟨cs, hcs⟩ := row_kind eachj
    exact ((h.bel.go s3 hW).grown hg ⟨cs, 3, hcs⟩ (by omega) lo8.1).setCell (p := ⟨gb, j, none⟩) lgb _
  · simp; omega
end Go.Proofs.YtjebnceajpkhmaaDoor
