/-
  The bench of chapter 8 and its queue: what turns; set.
-/
import Derived.Test.YtkemhcokkaanfaaBe
namespace Go.Proofs.Ytkemhcokkaanfaa
open Go.RowKit Go.Maps

section
variable {w w' : World} {p q : Nat} {own : Nat → En} {c g : Int} {t : Nat} {X X' : QS} {K K' : Int}
/-- four cells of a block are set -/
def set4 (w : World) (p a : Nat) (e : En) : World := (((w.setCell ⟨p, a, none⟩ (.int .i64 e.id)).setCell ⟨p, a + 1, none⟩ (.int .u64 e.wt)).setCell ⟨p, a + 2, none⟩ (.int .i64 e.v)).setCell ⟨p, a + 3, none⟩ (.int .u64 e.rem)
theorem set4_other (w : World) (p a : Nat) (e : En) {b : Nat} (hb : b ≠ p) : (set4 w p a e).heap[b]? = w.heap[b]? := by
  unfold set4
  have h1 := Below.heap_setCell w ⟨p, a, none⟩ (.int .i64 e.id) b hb
  have h2 := Below.heap_setCell (w.setCell ⟨p, a, none⟩ (.int .i64 e.id)) ⟨p, a + 1, none⟩ (.int .u64 e.wt) b hb
  have h3 := Below.heap_setCell ((w.setCell ⟨p, a, none⟩ (.int .i64 e.id)).setCell ⟨p, a + 1, none⟩ (.int .u64 e.wt)) ⟨p, a + 2, none⟩ (.int .i64 e.v) b hb
  have h4 := Below.heap_setCell (((w.setCell ⟨p, a, none⟩ (.int .i64 e.id)).setCell ⟨p, a + 1, none⟩ (.int .u64 e.wt)).setCell ⟨p, a + 2, none⟩ (.int .i64 e.v)) ⟨p, a + 3, none⟩ (.int .u64 e.rem) b hb
  exact h4.trans (h3.trans (h2.trans h1))
theorem set4_turns (w : World) (p a : Nat) (e : En) {S : List Nat} (hp : p ∈ S) : Turns S w (set4 w p a e) := by
  have t1 := (Turns.refl S w).setCell (p := ⟨p, a, none⟩) (.inl hp) (.int .i64 e.id)
  have t2 := t1.setCell (p := ⟨p, a + 1, none⟩) (.inl hp) (.int .u64 e.wt)
  have t3 := t2.setCell (p := ⟨p, a + 2, none⟩) (.inl hp) (.int .i64 e.v)
  exact t3.setCell (p := ⟨p, a + 3, none⟩) (.inl hp) (.int .u64 e.rem)
theorem set4_cells {cs : Array Value} {ty : TypeId} (h : Blk w p cs ty) (a : Nat) (e : En) (ha : a + 3 < cs.size) :
    ∃ ds, Blk (set4 w p a e) p ds ty ∧ ds.size = cs.size ∧ EntAt (set4 w p a e) p a e ∧ ∀ i, (i < a ∨ a + 3 < i) → (set4 w p a e).cell? ⟨p, i, none⟩ = w.cell? ⟨p, i, none⟩ := by
  have h4 : Blk (set4 w p a e) p _ ty := Blk.set (Blk.set (Blk.set (Blk.set h a (.int .i64 e.id)) (a + 1) (.int .u64 e.wt)) (a + 2) (.int .i64 e.v)) (a + 3) (.int .u64 e.rem)
  refine ⟨_, h4, by simp, ⟨?_, ?_, ?_, ?_⟩, fun i hi => ?_⟩
  · rw [Blk.cell h4]; simp [Array.getElem?_setIfInBounds]; omega
  · rw [Blk.cell h4]; simp [Array.getElem?_setIfInBounds]; omega
  · rw [Blk.cell h4]; simp [Array.getElem?_setIfInBounds]; omega
  · rw [Blk.cell h4]; simp [Array.getElem?_setIfInBounds]; omega
  · rw [Blk.cell h4, Blk.cell h]
    rw [Array.getElem?_setIfInBounds_ne (by omega), Array.getElem?_setIfInBounds_ne (by omega), Array.getElem?_setIfInBounds_ne (by omega), Array.getElem?_setIfInBounds_ne (by omega)]
theorem BenchAt.set_own (h : BenchAt w p q own c g t) {i : Nat} (hi : i < 8) (e : En) : BenchAt (set4 w p (1 + i * 4) e) p q (updO own i e) c g t := by
  obtain ⟨cs, hb, hs⟩ := h.blk
  obtain ⟨ds, h1, h2, h3, h4⟩ := set4_cells hb (1 + i * 4) e (by omega)
  refine ⟨⟨ds, h1, by omega⟩, (h4 0 (by omega)).trans h.q0, fun j hj => ?_, (h4 33 (by omega)).trans h.c0, (h4 34 (by omega)).trans h.g0, (h4 35 (by omega)).trans h.t0⟩
  unfold updO
  by_cases hij : j = i
  · rw [if_pos hij, hij]; exact h3
  · rw [if_neg hij]
    obtain ⟨o0, o1, o2, o3⟩ := h.own j hj
    exact ⟨(h4 _ (by omega)).trans o0, (h4 _ (by omega)).trans o1, (h4 _ (by omega)).trans o2, (h4 _ (by omega)).trans o3⟩

/-- a world, and blocks that lie as told -/
structure Base where
  w : World
  kept : List (Nat × Option Obj)
/-- a bench and its queue, new since w0; the kept blocks are none of theirs -/
structure BQ (w0 : Base) (w : World) (p q : Nat) (X : QS) (K : Int) (own : Nat → En) (c g : Int) (t : Nat) : Prop where
  ex : ∃ F, QAt w q F X K ∧ Below w0.w.heap.size w0.w w ∧ (∀ b, b ∈ F → w0.w.heap.size ≤ b) ∧ ∀ z, z ∈ w0.kept → z.1 ∉ F ∧ z.1 ≠ p ∧ z.1 < w.heap.size ∧ w.heap[z.1]? = z.2
  pb : w0.w.heap.size ≤ p
  bench : BenchAt w p q own c g t
variable {w0 : Base}
theorem QAt.not_bench {F : List Nat} (h : QAt w q F X K) (hb : BenchAt w p q own c g t) : p ∉ F := by
  obtain ⟨cs, hk, hs⟩ := hb.blk
  obtain ⟨bm, bt, S, gg, hM, rfl⟩ := h.ex
  intro hm
  simp only [qblocks, List.mem_cons, List.mem_append, List.mem_map] at hm
  rcases hm with rfl | rfl | hm | ⟨x, hx, rfl⟩
  · have := hM.blk.symm.trans hk
    simp at this
  · exact hM.map.not_blk hk rfl
  · exact hM.tree.not hk (by omega) (by omega) hm
  · have := (hM.ents x hx).symm.trans hk
    simp at this
theorem BQ.new (h : BQ w0 w p q X K own c g t) : QNew w0.w w q X K := by
  obtain ⟨F, h1, h2, h3, _⟩ := h.ex
  exact ⟨F, h1, h2, h3⟩
theorem BQ.base (h : BQ w0 w p q X K own c g t) : Below w0.w.heap.size w0.w w := h.new.base
theorem BQ.keep (h : BQ w0 w p q X K own c g t) {z : Nat × Option Obj} (hz : z ∈ w0.kept) : w.heap[z.1]? = z.2 := by
  obtain ⟨F, _, _, _, h4⟩ := h.ex
  exact (h4 z hz).2.2.2
theorem BQ.below (h : BQ w0 w p q X K own c g t) (hb : Below w.heap.size w w') : BQ w0 w' p q X K own c g t := by
  obtain ⟨F, h1, h2, h3, h4⟩ := h.ex
  exact ⟨⟨F, h1.below hb, h2.trans (hb.mono h2.size), h3, fun z hz => by
    obtain ⟨a, b, c, d⟩ := h4 z hz
    exact ⟨a, b, Nat.lt_of_lt_of_le c hb.size, (hb.block _ c).trans d⟩⟩, h.pb, h.bench.below hb⟩
theorem BQ.turned {F F' : List Nat} (h : BQ w0 w p q X K own c g t) (h1 : QAt w q F X K) (h2 : Below w0.w.heap.size w0.w w) (h3 : (∀ b, b ∈ F → w0.w.heap.size ≤ b) ∧ ∀ z, z ∈ w0.kept → z.1 ∉ F ∧ z.1 ≠ p ∧ z.1 < w.heap.size ∧ w.heap[z.1]? = z.2) (hT : QTurned w F q X' K' w' F') : BQ w0 w' p q X' K' own c g t := by
  obtain ⟨h3, h4⟩ := h3
  refine ⟨⟨F', hT.at_, Below.turns h2 hT.turns h3 h2.size, fun b hb => ?_, fun z hz => ?_⟩, h.pb, h.bench.of (hT.turns.block p h.bench.lt (h1.not_bench h.bench))⟩
  · rcases hT.sub b hb with e | e
    · exact h3 b e
    · exact Nat.le_trans h2.size e
  · obtain ⟨a, b, c, d⟩ := h4 z hz
    refine ⟨fun hm => ?_, b, Nat.lt_of_lt_of_le c hT.turns.size, (hT.turns.block _ c a).trans d⟩
    rcases hT.sub _ hm with e | e
    · exact a e
    · omega
theorem BQ.set_own (h : BQ w0 w p q X K own c g t) {i : Nat} (hi : i < 8) (e : En) : BQ w0 (set4 w p (1 + i * 4) e) p q X K (updO own i e) c g t := by
  obtain ⟨F, h1, h2, h3, h4⟩ := h.ex
  have hp := h1.not_bench h.bench
  have ht := set4_turns w p (1 + i * 4) e (S := [p]) (by simp)
  refine ⟨⟨F, h1.of (fun b hb => set4_other w p _ e (fun hx => hp (hx ▸ hb))), Below.turns h2 ht (fun x hx => by
    rw [List.mem_singleton] at hx
    rw [hx]; exact h.pb) h2.size, h3, fun z hz => ?_⟩, h.pb, h.bench.set_own hi e⟩
  obtain ⟨a, b, c, d⟩ := h4 z hz
  exact ⟨a, b, Nat.lt_of_lt_of_le c ht.size, (set4_other w p _ e b).trans d⟩
theorem BQ.mono (h : BQ w0 w p q X K own c g t) (hK : K ≤ K') (h2 : K' ≤ 1000000000000000) : BQ w0 w p q X K' own c g t := by
  obtain ⟨F, h1, h3⟩ := h.ex
  exact ⟨⟨F, h1.mono hK h2, h3⟩, h.pb, h.bench⟩
theorem bq_put (h : BQ w0 w p q X K own c g t) (hK : K + 1000 ≤ 1000000000000000) (e : En) (he : e.num) :
    Calls Try.prog 32 #[.pointer (some ⟨q, 0, none⟩), enV e] w fun r w' => r = .returned (.int .i64 (putC X e)) ∧ Hid (BQ w0 w' p q (putQ X e) (K + 1000) own c g t) := by
  obtain ⟨F, h1, h2, h3⟩ := h.ex
  refine (qput_any h1 hK e he.i1 he.i2 he.v1 he.v2 he.w2 he.r2).mono fun r w' hp => ?_
  obtain ⟨F', hr, hT⟩ := hp
  exact ⟨hr, h.turned h1 h2 h3 hT.out⟩
theorem bq_drop (h : BQ w0 w p q X K own c g t) (hK : K + 1000 ≤ 1000000000000000) (i : Int) (i1 : -9223372036854775808 ≤ i) (i2 : i ≤ 9223372036854775807) :
    Calls Try.prog 36 #[.pointer (some ⟨q, 0, none⟩), .int .i64 i] w fun r w' => r = .returned (dropV (X.get i)) ∧ Hid (BQ w0 w' p q (dropQ X i) (K + 1000) own c g t) := by
  obtain ⟨F, h1, h2, h3⟩ := h.ex
  refine (qdrop_any h1 hK i i1 i2).mono fun r w' hp => ?_
  obtain ⟨F', hr, hT⟩ := hp
  exact ⟨hr, h.turned h1 h2 h3 hT.out⟩
theorem bq_weigh (h : BQ w0 w p q X K own c g t) (i : Int) (i1 : -9223372036854775808 ≤ i) (i2 : i ≤ 9223372036854775807) (wn : Nat) (hwn : wn < 18446744073709551616) :
    Calls Try.prog 63 #[.pointer (some ⟨q, 0, none⟩), .int .i64 i, .int .u64 wn] w fun r w' => r = .returned (.int .i64 (weighC X i wn)) ∧ Hid (BQ w0 w' p q (weighQ X i wn) K own c g t) := by
  obtain ⟨F, h1, h2, h3⟩ := h.ex
  refine (qweigh_any h1 i i1 i2 wn hwn).mono fun r w' hp => ?_
  obtain ⟨F', hr, hT⟩ := hp
  exact ⟨hr, h.turned h1 h2 h3 hT.out⟩
theorem bq_charge (h : BQ w0 w p q X K own c g t) (hK : K + 1000 ≤ 1000000000000000) (ns : Nat) (hns : ns < 18446744073709551616) :
    Calls Try.prog 34 #[.pointer (some ⟨q, 0, none⟩), .int .u64 ns] w fun r w' => r = .returned (.int .i64 (chargeC X ns)) ∧ Hid (BQ w0 w' p q (chargeQ X ns) (K + 1000) own c g t) := by
  obtain ⟨F, h1, h2, h3⟩ := h.ex
  refine (qcharge_any h1 hK ns hns).mono fun r w' hp => ?_
  obtain ⟨F', hr, hT⟩ := hp
  exact ⟨hr, h.turned h1 h2 h3 hT.out⟩
theorem bq_pick (h : BQ w0 w p q X K own c g t) (gran : Int) (hg1 : -9223372036854775808 ≤ gran) (hg2 : gran ≤ 9223372036854775807) :
    Calls Try.prog 44 #[.pointer (some ⟨q, 0, none⟩), .int .i64 gran] w fun e w' => e = .returned (.int .i64 (X.pickI gran)) ∧ Hid (BQ w0 w' p q (pickQ X gran) K own c g t) := by
  obtain ⟨F, h1, h2, h3⟩ := h.ex
  exact (qpick_any h1 gran hg1 hg2).mono fun r w' hp => ⟨hp.1, h.turned h1 h2 h3 hp.2.out⟩
theorem bq_yield (h : BQ w0 w p q X K own c g t) (gran : Int) (hg1 : -9223372036854775808 ≤ gran) (hg2 : gran ≤ 9223372036854775807) :
    Calls Try.prog 45 #[.pointer (some ⟨q, 0, none⟩), .int .i64 gran] w fun e w' => e = .returned (.int .i64 (X.yieldI gran)) ∧ Hid (BQ w0 w' p q (yieldQ X gran) K own c g t) := by
  obtain ⟨F, h1, h2, h3⟩ := h.ex
  exact (qyield_any h1 gran hg1 hg2).mono fun r w' hp => ⟨hp.1, h.turned h1 h2 h3 hp.2.out⟩
end

end Go.Proofs.Ytkemhcokkaanfaa
