/-
  The farm of chapter 20 in memory, and its queues.
  The farm of chapter 20: home, parent, free, wake.
  The farm of chapter 20 as data; free, wake.
-/
import Derived.Test.YtefekboacghnjaaMn

namespace Go.Proofs.Ytefekboacghnjaa
open Go.RowKit Go.Maps

/-- a farm in memory -/
structure FAt (w : World) (p h : Nat) (own : Nat → En) (here : Nat → Bool) (c g : Int) (t : Nat) : Prop where
  blk : ∃ cs, Blk w p cs 71 ∧ cs.size = 44
  h0 : w.cell? ⟨p, 0, none⟩ = some (.pointer (some ⟨h, 0, none⟩))
  own : ∀ i, i < 8 → EntAt w p (1 + i * 4) (own i)
  here : ∀ i, i < 8 → w.cell? ⟨p, 33 + i, none⟩ = some (.bool (here i))
  c0 : w.cell? ⟨p, 41, none⟩ = some (.int .i64 c)
  g0 : w.cell? ⟨p, 42, none⟩ = some (.int .i64 g)
  t0 : w.cell? ⟨p, 43, none⟩ = some (.int .u64 t)
def updO2 (own : Nat → En) (i : Nat) (e : En) : Nat → En := fun j => if j = i then e else own j
def updB (here : Nat → Bool) (i : Nat) (b : Bool) : Nat → Bool := fun j => if j = i then b else here j
section
variable {w w' : World} {p h : Nat} {own : Nat → En} {here : Nat → Bool} {c g : Int} {t : Nat}
theorem FAt.lt (a : FAt w p h own here c g t) : p < w.heap.size := by
  obtain ⟨cs, hb, _⟩ := a.blk
  exact hb.lt
theorem FAt.of (a : FAt w p h own here c g t) (e : w'.heap[p]? = w.heap[p]?) : FAt w' p h own here c g t := by
  have key : ∀ i, w'.cell? ⟨p, i, none⟩ = w.cell? ⟨p, i, none⟩ := fun i => by unfold World.cell?; rw [e]
  obtain ⟨cs, hb, hs⟩ := a.blk
  exact ⟨⟨cs, hb.of e, hs⟩, (key _).trans a.h0, fun i hi => EntAt.of (a.own i hi) e, fun i hi => (key _).trans (a.here i hi), (key _).trans a.c0, (key _).trans a.g0, (key _).trans a.t0⟩
theorem FAt.frozen (a : FAt w p h own here c g t) : ∀ j, w.frozen? ⟨p, j, none⟩ = false := by
  obtain ⟨cs, hb, hs⟩ := a.blk
  exact Blk.frozen hb
theorem FAt.set_own (a : FAt w p h own here c g t) {i : Nat} (hi : i < 8) (e : En) : FAt (set4 w p (1 + i * 4) e) p h (updO2 own i e) here c g t := by
  obtain ⟨cs, hb, hs⟩ := a.blk
  obtain ⟨ds, h1, h2, h3, h4⟩ := set4_cells hb (1 + i * 4) e (by omega)
  refine ⟨⟨ds, h1, by omega⟩, (h4 0 (by omega)).trans a.h0, fun j hj => ?_, fun j hj => (h4 _ (by omega)).trans (a.here j hj), (h4 41 (by omega)).trans a.c0, (h4 42 (by omega)).trans a.g0, (h4 43 (by omega)).trans a.t0⟩
  unfold updO2
  by_cases hij : j = i
  · rw [if_pos hij, hij]; exact h3
  · rw [if_neg hij]
    obtain ⟨o0, o1, o2, o3⟩ := a.own j hj
    exact ⟨(h4 _ (by omega)).trans o0, (h4 _ (by omega)).trans o1, (h4 _ (by omega)).trans o2, (h4 _ (by omega)).trans o3⟩
theorem FAt.set_here (a : FAt w p h own here c g t) {i : Nat} (hi : i < 8) (b : Bool) : FAt (w.setCell ⟨p, 33 + i, none⟩ (.bool b)) p h own (updB here i b) c g t := by
  obtain ⟨cs, hb, hs⟩ := a.blk
  have h1 := Blk.set hb (33 + i) (.bool b)
  have other : ∀ j, j ≠ 33 + i → (w.setCell ⟨p, 33 + i, none⟩ (.bool b)).cell? ⟨p, j, none⟩ = w.cell? ⟨p, j, none⟩ := fun j hj => by
    rw [Blk.cell h1, Blk.cell hb, Array.getElem?_setIfInBounds_ne (Ne.symm hj)]
  refine ⟨⟨_, h1, by simpa using hs⟩, (other 0 (by omega)).trans a.h0, fun j hj => ?_, fun j hj => ?_, (other 41 (by omega)).trans a.c0, (other 42 (by omega)).trans a.g0, (other 43 (by omega)).trans a.t0⟩
  · obtain ⟨o0, o1, o2, o3⟩ := a.own j hj
    exact ⟨(other _ (by omega)).trans o0, (other _ (by omega)).trans o1, (other _ (by omega)).trans o2, (other _ (by omega)).trans o3⟩
  · unfold updB
    by_cases hij : j = i
    · rw [if_pos hij, hij, Blk.cell h1]
      simp [Array.getElem?_setIfInBounds]
      omega
    · rw [if_neg hij]
      exact (other _ (by omega)).trans (a.here j hj)
end
/-- a farm and its queues, new since w0; what lies beside them -/
structure FQ (w0 : World) (ks : List (Nat × Obj)) (w : World) (p h : Nat) (S : HS) (K : Int) (own : Nat → En) (here : Nat → Bool) (c g : Int) (t : Nat) : Prop where
  ex : ∃ F, HAt w h F S K ∧ Below w0.heap.size w0 w ∧ (∀ b, b ∈ F → w0.heap.size ≤ b) ∧ p ∉ F ∧ ∀ z, z ∈ ks → z.1 ∉ F ∧ z.1 ≠ p ∧ w.heap[z.1]? = some z.2
  pb : w0.heap.size ≤ p
  farm : FAt w p h own here c g t
section
variable {w0 w w' : World} {ks : List (Nat × Obj)} {p h : Nat} {S S' : HS} {K K' : Int} {own : Nat → En} {here : Nat → Bool} {c g : Int} {t : Nat}
theorem FQ.base (a : FQ w0 ks w p h S K own here c g t) : Below w0.heap.size w0 w := by
  obtain ⟨F, _, h2, _⟩ := a.ex
  exact h2
theorem FQ.kept (a : FQ w0 ks w p h S K own here c g t) {z : Nat × Obj} (hz : z ∈ ks) : w.heap[z.1]? = some z.2 := by
  obtain ⟨F, _, _, _, _, hk⟩ := a.ex
  exact (hk z hz).2.2
theorem FQ.below (a : FQ w0 ks w p h S K own here c g t) (k : Below w.heap.size w w') : FQ w0 ks w' p h S K own here c g t := by
  obtain ⟨F, h1, h2, h3, h4, h5⟩ := a.ex
  refine ⟨⟨F, h1.below k, h2.trans (k.mono h2.size), h3, h4, fun z hz => ?_⟩, a.pb, a.farm.of (k.block p a.farm.lt)⟩
  obtain ⟨k1, k2, k3⟩ := h5 z hz
  exact ⟨k1, k2, (k.block z.1 (Array.getElem?_eq_some_iff.1 k3).1).trans k3⟩
theorem FQ.mono (a : FQ w0 ks w p h S K own here c g t) (hK : K ≤ K') (h2 : K' ≤ 1000000000000000) : FQ w0 ks w p h S K' own here c g t := by
  obtain ⟨F, h1, h3⟩ := a.ex
  exact ⟨⟨F, h1.mono hK h2, h3⟩, a.pb, a.farm⟩
/-- the queues turn -/
theorem FQ.turned (a : FQ w0 ks w p h S K own here c g t) : ∃ F, HAt w h F S K ∧ ∀ S' K' w' F', HTurned w F h S' K' w' F' → FQ w0 ks w' p h S' K' own here c g t := by
  obtain ⟨F, h1, h2, h3, h4, h5⟩ := a.ex
  refine ⟨F, h1, fun S' K' w' F' hT => ⟨⟨F', hT.at_, Below.turns h2 hT.turns h3 h2.size, fun b hb => ?_, fun hb => ?_, fun z hz => ?_⟩, a.pb, a.farm.of (hT.turns.block p a.farm.lt h4)⟩⟩
  · rcases hT.sub b hb with e | e
    · exact h3 b e
    · exact Nat.le_trans h2.size e
  · rcases hT.sub p hb with e | e
    · exact h4 e
    · have := a.farm.lt; omega
  · obtain ⟨k1, k2, k3⟩ := h5 z hz
    have hlt := (Array.getElem?_eq_some_iff.1 k3).1
    refine ⟨fun hb => ?_, k2, (hT.turns.block z.1 hlt k1).trans k3⟩
    rcases hT.sub _ hb with e | e
    · exact k1 e
    · omega
theorem FQ.turn_ (a : FQ w0 ks w p h S K own here c g t) {own' : Nat → En} {here' : Nat → Bool} (hp : ∀ b, b ≠ p → w'.heap[b]? = w.heap[b]?) (hT : Turns [p] w w') (hf : FAt w' p h own' here' c g t) : FQ w0 ks w' p h S K own' here' c g t := by
  obtain ⟨F, h1, h2, h3, h4, h5⟩ := a.ex
  refine ⟨⟨F, h1.of fun b hb => hp b (fun e => h4 (e ▸ hb)), Below.turns h2 hT (fun x hx => by rw [List.mem_singleton] at hx; rw [hx]; exact a.pb) h2.size, h3, h4, fun z hz => ?_⟩, a.pb, hf⟩
  obtain ⟨k1, k2, k3⟩ := h5 z hz
  exact ⟨k1, k2, (hp _ k2).trans k3⟩
theorem FQ.set_own (a : FQ w0 ks w p h S K own here c g t) {i : Nat} (hi : i < 8) (e : En) : FQ w0 ks (set4 w p (1 + i * 4) e) p h S K (updO2 own i e) here c g t :=
  a.turn_ (fun b hb => set4_other _ _ _ _ hb) (set4_turns _ _ _ _ (by simp)) (a.farm.set_own hi e)
theorem FQ.set_here (a : FQ w0 ks w p h S K own here c g t) {i : Nat} (hi : i < 8) (b : Bool) : FQ w0 ks (w.setCell ⟨p, 33 + i, none⟩ (.bool b)) p h S K own (updB here i b) c g t :=
  a.turn_ (fun b hb => Below.heap_setCell _ _ _ _ hb) ((Turns.refl _ _).setCell (.inl (by simp)) _) (a.farm.set_here hi b)

theorem fq_put (a : FQ w0 ks w p h S K own here c g t) (H : HGood S) (hK : K + 10000 ≤ 1000000000000000) {i : Nat} {x : Gr} (hg : S.G i = some x) (e : En) (he : e.num) (t0 : 0 ≤ e.id) (t1 : e.id < 64) :
    Calls Try.prog 30 #[.pointer (some ⟨h, 0, none⟩), .int .i64 (i : Int), enV e] w fun r w' => r = .returned (.int .i64 (putC x.q (dblE e))) ∧ Hid (FQ w0 ks w' p h (putHS S i x (dblE e)) (K + 10000) own here c g t) := by
  obtain ⟨F, h1, h2⟩ := a.turned
  refine (hput_some h1 hK hg (H.inv.chain hg) e he t0 t1).mono fun r w' hpp => ?_
  obtain ⟨hr, F', hT⟩ := hpp
  exact ⟨hr, h2 _ _ _ _ hT.out⟩
theorem fq_drop (a : FQ w0 ks w p h S K own here c g t) (H : HGood S) (hK : K + 10000 ≤ 1000000000000000) {i : Nat} {x : Gr} (hg : S.G i = some x) (k : Int) (t0 : 0 ≤ k) (t1 : k < 64) (e : En) (hx : x.q.get (2 * k) = some e) :
    Calls Try.prog 32 #[.pointer (some ⟨h, 0, none⟩), .int .i64 (i : Int), .int .i64 k] w fun r w' => r = .returned (.tuple #[enV { e with id := k }, .int .i64 0]) ∧ Hid (FQ w0 ks w' p h (dropHS S i x (2 * k)) (K + 10000) own here c g t) := by
  obtain ⟨F, h1, h2⟩ := a.turned
  refine (hdrop_some h1 hK hg (H.inv.chain hg) k t0 t1 e hx).mono fun r w' hpp => ?_
  obtain ⟨hr, F', hT⟩ := hpp
  exact ⟨hr, h2 _ _ _ _ hT.out⟩
theorem fq_stop (a : FQ w0 ks w p h S K own here c g t) (H : HGood S) (hK : K + 10000 ≤ 1000000000000000) {i : Nat} {x : Gr} (h0 : i ≠ 0) (hg : S.G i = some x) (is : Bool) :
    Calls Try.prog 49 #[.pointer (some ⟨h, 0, none⟩), .int .i64 (i : Int), .bool is] w fun r w' => r = .returned (.int .i64 0) ∧ Hid (FQ w0 ks w' p h (stopHS S i x is) (K + 10000) own here c g t) := by
  obtain ⟨F, h1, h2⟩ := a.turned
  refine (hstop_some h1 hK h0 hg (H.inv.chain hg) is).mono fun r w' hpp => ?_
  obtain ⟨hr, F', hT⟩ := hpp
  exact ⟨hr, h2 _ _ _ _ hT.out⟩
theorem fq_weigh (a : FQ w0 ks w p h S K own here c g t) (H : HGood S) {i : Nat} {x : Gr} (h0 : i ≠ 0) (hg : S.G i = some x) (wn : Nat) (w1 : 2 ≤ wn) (w2 : wn ≤ 262144) :
    Calls Try.prog 48 #[.pointer (some ⟨h, 0, none⟩), .int .i64 (i : Int), .int .u64 wn] w fun r w' => (∃ c, r = .returned (.int .i64 c)) ∧ Hid (FQ w0 ks w' p h (weighHS S i x wn) K own here c g t) := by
  obtain ⟨F, h1, h2⟩ := a.turned
  obtain ⟨u, q, e1, e2, _⟩ := H.inv.tree.up i x h0 hg
  refine (hweigh_some h1 h0 hg e1 e2 (H.inv.num i x h0 hg) wn w1 w2).mono fun r w' hpp => ?_
  obtain ⟨hr, F', hT⟩ := hpp
  exact ⟨hr, h2 _ _ _ _ hT.out⟩
theorem fq_pick (a : FQ w0 ks w p h S K own here c g t) (H : HGood S) (g1 : -9223372036854775808 ≤ S.gran) (g2 : S.gran ≤ 9223372036854775807) :
    Calls Try.prog 50 #[.pointer (some ⟨h, 0, none⟩)] w fun r w' => r = .returned (.int .i64 (pickHI 9 S)) ∧ Hid (FQ w0 ks w' p h (pickH 9 S) K own here c g t) := by
  obtain ⟨F, h1, h2⟩ := a.turned
  refine (hpick_any h1 9 H.pick0 g1 g2).mono fun r w' hpp => ?_
  obtain ⟨hr, F', hT⟩ := hpp
  exact ⟨hr, h2 _ _ _ _ hT.out⟩
theorem fq_run (a : FQ w0 ks w p h S K own here c g t) (H : HGood S) :
    Calls Try.prog 36 #[.pointer (some ⟨h, 0, none⟩)] w fun r w' => r = .returned (.int .i64 (runI 9 S)) ∧ Hid (FQ w0 ks w' p h S K own here c g t) := by
  obtain ⟨F, h1, h2⟩ := a.turned
  refine (hrun_any h1 9 H.cur0).mono fun r w' hpp => ?_
  obtain ⟨hr, F', hT⟩ := hpp
  exact ⟨hr, h2 _ _ _ _ hT.out⟩
/-- Charge, whether somebody runs or not -/
def chargeH (ns : Nat) (S : HS) : HS := if runI 9 S = -1 then S else chargeF ns 9 S 0
theorem fq_charge (a : FQ w0 ks w p h S K own here c g t) (H : HGood S) (hK : K + 10000 ≤ 1000000000000000) (ns : Nat) (hns : ns ≤ 1000000000) :
    Calls Try.prog 38 #[.pointer (some ⟨h, 0, none⟩), .int .u64 ns] w fun r w' => r = .returned (.int .i64 (if runI 9 S = -1 then 7 else 0)) ∧ Hid (FQ w0 ks w' p h (chargeH ns S) (K + 10000) own here c g t) := by
  obtain ⟨F, h1, h2⟩ := a.turned
  unfold chargeH
  by_cases hr : runI 9 S = -1
  · rw [if_pos hr, if_pos hr]
    refine (hcharge_no h1 9 H.cur0 ns hr).mono fun r w' hpp => ?_
    obtain ⟨hr, F', hT⟩ := hpp
    exact ⟨hr, (h2 _ _ _ _ hT.out).mono (by omega) (by omega)⟩
  · rw [if_neg hr, if_neg hr]
    refine (hcharge_yes h1 9 (by omega) H.cur0 ns hns hr).mono fun r w' hpp => ?_
    obtain ⟨hr, F', hT⟩ := hpp
    exact ⟨hr, (h2 _ _ _ _ hT.out).mono (by omega) (by omega)⟩
theorem yield_put {S : HS} (H : HGood S) {x : Gr} {i : Nat} (hx : S.G i = some x) : HGood (S.put i (some { x with q := yieldQ x.q S.gran })) :=
  H.same hx ((H.inv.qok i x hx).at_ ((H.inv.qok i x hx).yieldI_ok S.gran)) rfl
theorem fq_yield (a : FQ w0 ks w p h S K own here c g t) (H : HGood S) (g1 : -9223372036854775808 ≤ S.gran) (g2 : S.gran ≤ 9223372036854775807) :
    Calls Try.prog 51 #[.pointer (some ⟨h, 0, none⟩)] w fun r w' => (∃ m, r = .returned (.int .i64 m)) ∧ Hid (FQ w0 ks w' p h (yieldH 9 S) K own here c g t) := by
  obtain ⟨F, h1, h2⟩ := a.turned
  refine (hyield_any h1 9 H.cur0 (fun _ => H.pick0) (fun x hx _ => (yield_put H hx).pick0) g1 g2).mono fun r w' hpp => ?_
  obtain ⟨hr, F', hT⟩ := hpp
  exact ⟨hr, h2 _ _ _ _ hT.out⟩
theorem yield_good (H : HGood S) : HGood (yieldH 9 S) := by
  unfold yieldH
  split
  · exact pick_good H
  · split
    · exact H
    · rename_i x hx
      exact pick_good (yield_put H hx)
theorem fq_min (a : FQ w0 ks w p h S K own here c g t) {i : Nat} {x : Gr} (hg : S.G i = some x) :
    Calls Try.prog 42 #[.pointer (some ⟨h, 0, none⟩), .int .i64 (i : Int)] w fun e w' => e = .returned (.int .i64 x.q.mn) ∧ w = w' := by
  obtain ⟨F, h1, _⟩ := a.ex
  obtain ⟨gb, qb, Fq, m, rfl⟩ := h1.ex
  exact hmin_some m hg
theorem fq_stopped (a : FQ w0 ks w p h S K own here c g t) {i : Nat} {x : Gr} (h0 : i ≠ 0) (hg : S.G i = some x) :
    Calls Try.prog 46 #[.pointer (some ⟨h, 0, none⟩), .int .i64 (i : Int)] w fun e w' => e = .returned (.bool x.stopped) ∧ w = w' := by
  obtain ⟨F, h1, _⟩ := a.ex
  obtain ⟨gb, qb, Fq, m, rfl⟩ := h1.ex
  exact hstopped_some m h0 hg
theorem fq_on (a : FQ w0 ks w p h S K own here c g t) {i : Nat} {x : Gr} (h0 : i ≠ 0) (hg : S.G i = some x) :
    Calls Try.prog 45 #[.pointer (some ⟨h, 0, none⟩), .int .i64 (i : Int)] w fun e w' => e = .returned (.bool x.on) ∧ w = w' := by
  obtain ⟨F, h1, _⟩ := a.ex
  obtain ⟨gb, qb, Fq, m, rfl⟩ := h1.ex
  exact hon_some m h0 hg
theorem fq_load (a : FQ w0 ks w p h S K own here c g t) {i : Nat} {x : Gr} (hg : S.G i = some x) :
    Calls Try.prog 44 #[.pointer (some ⟨h, 0, none⟩), .int .i64 (i : Int)] w fun e w' => e = .returned (.int .u64 (loadL x.q.L : Nat)) ∧ w = w' := by
  obtain ⟨F, h1, _⟩ := a.ex
  obtain ⟨gb, qb, Fq, m, rfl⟩ := h1.ex
  exact hload_some m hg
theorem fq_queue (a : FQ w0 ks w p h S K own here c g t) {i : Nat} {x : Gr} (hg : S.G i = some x) :
    Calls Try.prog 37 #[.pointer (some ⟨h, 0, none⟩), .int .i64 (i : Int)] w fun r w' => ∃ v, r = .returned v ∧ Hid (w'.ownsRow w.heap.size 32 4 v x.q.ents.length (x.q.ents.flatMap ecl) ∧ Below w.heap.size w w' ∧ FQ w0 ks w' p h S K own here c g t) := by
  obtain ⟨F, h1, _⟩ := a.ex
  obtain ⟨gb, qb, Fq, m, rfl⟩ := h1.ex
  refine (hqueue_some m hg).mono fun r w' hp => ?_
  obtain ⟨v, hr, hO⟩ := hp
  exact ⟨v, hr, hO.out.1, hO.out.2, a.below hO.out.2⟩
end

end Go.Proofs.Ytefekboacghnjaa

namespace Go.Proofs.Ytefekboacghnjaa
open Go.RowKit Go.Maps

def homeN (n : Nat) : Nat := [0, 1, 2, 3, 5, 5, 4, 0].getD n 0
def parN (g : Nat) : Nat := [0, 0, 1, 1, 0, 3].getD g 0
theorem home_0 (w : World) : Calls Try.prog 39 #[.int .i64 0] w fun e w' => e = .returned (.int .i64 0) ∧ Below w.heap.size w w' := by
  go_enter Try.func39, Try.ntmps39
  go_wp2_with fail
  go_ret
  exact ⟨rfl, (Below.refl _ _).alloc (Nat.le_refl _) _⟩
theorem home_1 (w : World) : Calls Try.prog 39 #[.int .i64 1] w fun e w' => e = .returned (.int .i64 1) ∧ Below w.heap.size w w' := by
  go_enter Try.func39, Try.ntmps39
  go_wp2_with fail
  go_ret
  exact ⟨rfl, (Below.refl _ _).alloc (Nat.le_refl _) _⟩
theorem home_2 (w : World) : Calls Try.prog 39 #[.int .i64 2] w fun e w' => e = .returned (.int .i64 2) ∧ Below w.heap.size w w' := by
  go_enter Try.func39, Try.ntmps39
  go_wp2_with fail
  go_ret
  exact ⟨rfl, (Below.refl _ _).alloc (Nat.le_refl _) _⟩
theorem home_3 (w : World) : Calls Try.prog 39 #[.int .i64 3] w fun e w' => e = .returned (.int .i64 3) ∧ Below w.heap.size w w' := by
  go_enter Try.func39, Try.ntmps39
  go_wp2_with fail
  go_ret
  exact ⟨rfl, (Below.refl _ _).alloc (Nat.le_refl _) _⟩
theorem home_4 (w : World) : Calls Try.prog 39 #[.int .i64 4] w fun e w' => e = .returned (.int .i64 5) ∧ Below w.heap.size w w' := by
  go_enter Try.func39, Try.ntmps39
  go_wp2_with fail
  go_ret
  exact ⟨rfl, (Below.refl _ _).alloc (Nat.le_refl _) _⟩
theorem home_5 (w : World) : Calls Try.prog 39 #[.int .i64 5] w fun e w' => e = .returned (.int .i64 5) ∧ Below w.heap.size w w' := by
  go_enter Try.func39, Try.ntmps39
  go_wp2_with fail
  go_ret
  exact ⟨rfl, (Below.refl _ _).alloc (Nat.le_refl _) _⟩
theorem home_6 (w : World) : Calls Try.prog 39 #[.int .i64 6] w fun e w' => e = .returned (.int .i64 4) ∧ Below w.heap.size w w' := by
  go_enter Try.func39, Try.ntmps39
  go_wp2_with fail
  go_ret
  exact ⟨rfl, (Below.refl _ _).alloc (Nat.le_refl _) _⟩
theorem home_7 (w : World) : Calls Try.prog 39 #[.int .i64 7] w fun e w' => e = .returned (.int .i64 0) ∧ Below w.heap.size w w' := by
  go_enter Try.func39, Try.ntmps39
  go_wp2_with fail
  go_ret
  exact ⟨rfl, (Below.refl _ _).alloc (Nat.le_refl _) _⟩
theorem home_any (n : Nat) (hn : n < 8) (w : World) : Calls Try.prog 39 #[.int .i64 (n : Int)] w fun e w' => e = .returned (.int .i64 ((homeN n : Nat) : Int)) ∧ Below w.heap.size w w' :=
  match n, hn with
  | 0, _ => home_0 w
  | 1, _ => home_1 w
  | 2, _ => home_2 w
  | 3, _ => home_3 w
  | 4, _ => home_4 w
  | 5, _ => home_5 w
  | 6, _ => home_6 w
  | 7, _ => home_7 w
theorem parent_0 (w : World) : Calls Try.prog 40 #[.int .i64 0] w fun e w' => e = .returned (.int .i64 0) ∧ Below w.heap.size w w' := by
  go_enter Try.func40, Try.ntmps40
  go_wp2_with fail
  go_ret
  exact ⟨rfl, (Below.refl _ _).alloc (Nat.le_refl _) _⟩
theorem parent_1 (w : World) : Calls Try.prog 40 #[.int .i64 1] w fun e w' => e = .returned (.int .i64 0) ∧ Below w.heap.size w w' := by
  go_enter Try.func40, Try.ntmps40
  go_wp2_with fail
  go_ret
  exact ⟨rfl, (Below.refl _ _).alloc (Nat.le_refl _) _⟩
theorem parent_2 (w : World) : Calls Try.prog 40 #[.int .i64 2] w fun e w' => e = .returned (.int .i64 1) ∧ Below w.heap.size w w' := by
  go_enter Try.func40, Try.ntmps40
  go_wp2_with fail
  go_ret
  exact ⟨rfl, (Below.refl _ _).alloc (Nat.le_refl _) _⟩
theorem parent_3 (w : World) : Calls Try.prog 40 #[.int .i64 3] w fun e w' => e = .returned (.int .i64 1) ∧ Below w.heap.size w w' := by
  go_enter Try.func40, Try.ntmps40
  go_wp2_with fail
  go_ret
  exact ⟨rfl, (Below.refl _ _).alloc (Nat.le_refl _) _⟩
theorem parent_4 (w : World) : Calls Try.prog 40 #[.int .i64 4] w fun e w' => e = .returned (.int .i64 0) ∧ Below w.heap.size w w' := by
  go_enter Try.func40, Try.ntmps40
  go_wp2_with fail
  go_ret
  exact ⟨rfl, (Below.refl _ _).alloc (Nat.le_refl _) _⟩
theorem parent_5 (w : World) : Calls Try.prog 40 #[.int .i64 5] w fun e w' => e = .returned (.int .i64 3) ∧ Below w.heap.size w w' := by
  go_enter Try.func40, Try.ntmps40
  go_wp2_with fail
  go_ret
  exact ⟨rfl, (Below.refl _ _).alloc (Nat.le_refl _) _⟩
theorem parent_any (n : Nat) (hn : n < 6) (w : World) : Calls Try.prog 40 #[.int .i64 (n : Int)] w fun e w' => e = .returned (.int .i64 ((parN n : Nat) : Int)) ∧ Below w.heap.size w w' :=
  match n, hn with
  | 0, _ => parent_0 w
  | 1, _ => parent_1 w
  | 2, _ => parent_2 w
  | 3, _ => parent_3 w
  | 4, _ => parent_4 w
  | 5, _ => parent_5 w
theorem home_lt (n : Nat) : homeN n < 6 := by
  unfold homeN
  rcases Nat.lt_or_ge n 8 with h | h
  · match n, h with
    | 0, _ => exact (by decide)
    | 1, _ => exact (by decide)
    | 2, _ => exact (by decide)
    | 3, _ => exact (by decide)
    | 4, _ => exact (by decide)
    | 5, _ => exact (by decide)
    | 6, _ => exact (by decide)
    | 7, _ => exact (by decide)
  · rw [List.getD_eq_getElem?_getD, List.getElem?_eq_none (by simpa using h)]
    decide

end Go.Proofs.Ytefekboacghnjaa

namespace Go.Proofs.Ytefekboacghnjaa
open Go.RowKit Go.Maps

/-- a farm as data -/
structure FSt where
  S : HS
  own : Nat → En
  here : Nat → Bool
/-- a task's entity that sleeps -/
structure TaskOk (n : Nat) (e : En) : Prop where
  id : e.id = (n : Int)
  w1 : 2 ≤ e.wt
  w2 : e.wt ≤ 262144
  v1 : -9223372036854775808 ≤ e.v
  v2 : e.v ≤ 9223372036854775807
  r : e.rem < e.wt
theorem TaskOk.num {n : Nat} (hn : n < 8) {e : En} (h : TaskOk n e) : e.num := by
  have := h.id
  have := h.w2
  have := h.r
  exact ⟨by omega, by omega, h.v1, h.v2, by omega, by omega⟩
structure FOk (c g : Int) (X : FSt) : Prop where
  good : HGood X.S
  cr : X.S.credit = c
  gr : X.S.gran = g
  link : ∀ i, i < 6 → ∃ x, X.S.G i = some x ∧ (i ≠ 0 → x.up = ((parN i : Nat) : Int))
  more : ∀ i, 6 ≤ i → X.S.G i = none
  own : ∀ n : Nat, n < 8 → TaskOk n (X.own n)
  here : ∀ n : Nat, n < 8 → ∀ x, X.S.G (homeN n) = some x → (X.here n = true ↔ ∃ e, e ∈ x.q.L ∧ e.id = 2 * (n : Int))
  ids : ∀ u x, X.S.G u = some x → ∀ e, e ∈ x.q.L → e.id % 2 = 0 → ∃ n : Nat, n < 8 ∧ e.id = 2 * (n : Int) ∧ homeN n = u
def lowZ (mn c : Int) : Int := IntKind.i64.wrap (mn - c)
theorem lowZ_i64 (mn c : Int) : -9223372036854775808 ≤ lowZ mn c ∧ lowZ mn c ≤ 9223372036854775807 := by
  unfold lowZ
  rw [IntKind.wrap_i64]
  omega
def awakened (e : En) (mn c : Int) : En := { e with v := max e.v (lowZ mn c) }
/-- a task wakes, or sleeps -/
def wakeF (c : Int) (X : FSt) (n : Nat) : FSt :=
  if X.here n then
    match (grOf X.S (homeN n)).q.get (2 * (n : Int)) with
    | some e => ⟨dropHS X.S (homeN n) (grOf X.S (homeN n)) (2 * (n : Int)), updO2 X.own n { e with id := (n : Int) }, updB X.here n false⟩
    | none => X
  else ⟨putHS X.S (homeN n) (grOf X.S (homeN n)) (dblE (awakened (X.own n) (grOf X.S (homeN n)).q.mn c)), X.own, updB X.here n (putC (grOf X.S (homeN n)).q (dblE (awakened (X.own n) (grOf X.S (homeN n)).q.mn c)) == 0)⟩
theorem FOk.at_ {c g : Int} {X : FSt} (O : FOk c g X) {i : Nat} (hi : i < 6) : X.S.G i = some (grOf X.S i) := by
  obtain ⟨x, hx, _⟩ := O.link i hi
  unfold grOf
  rw [hx]
  rfl
theorem FOk.up {c g : Int} {X : FSt} (O : FOk c g X) {i : Nat} (hi : i < 6) (h0 : i ≠ 0) : (grOf X.S i).up = ((parN i : Nat) : Int) := by
  obtain ⟨x, hx, hu⟩ := O.link i hi
  unfold grOf
  rw [hx]
  exact hu h0
def ancN (g : Nat) : List Nat := [[], [1], [2, 1], [3, 1], [4], [5, 3, 1]].getD g []
theorem ancN_step (g : Nat) (hg : g < 6) (h0 : g ≠ 0) : ancN g = g :: ancN (parN g) := by
  match g, hg, h0 with
  | 1, _, _ => rfl
  | 2, _, _ => rfl
  | 3, _, _ => rfl
  | 4, _, _ => rfl
  | 5, _, _ => rfl
theorem parN_lt (g : Nat) (hg : g < 6) : parN g < 6 := by
  match g, hg with
  | 0, _ => exact (by decide)
  | 1, _ => exact (by decide)
  | 2, _ => exact (by decide)
  | 3, _ => exact (by decide)
  | 4, _ => exact (by decide)
  | 5, _ => exact (by decide)
/-- is none of them stopped? -/
def freeF (S : HS) (g : Nat) : Bool := (ancN g).all fun i => !(grOf S i).stopped

section
variable {w0 w : World} {ks : List (Nat × Obj)} {p h : Nat} {X : FSt} {K : Int} {c g : Int} {t : Nat}
set_option maxRecDepth 100000 in
set_option maxHeartbeats 4000000 in
theorem free_any (a : FQ w0 ks w p h X.S K X.own X.here c g t) (O : FOk c g X) (n : Nat) (hn : n < 8) :
    Calls Try.prog 35 #[.pointer (some ⟨p, 0, none⟩), .int .i64 (n : Int)] w fun r w' => r = .returned (.bool (freeF X.S (homeN n))) ∧ Below w.heap.size w w' := by
  have MH := Lib.hid fun W => home_any n hn W
  have hlt := home_lt n
  have MS : Hid (∀ W, Below w.heap.size w W → (W.cell? ⟨p, 0, none⟩ = some (.pointer (some ⟨h, 0, none⟩))) ∧ ∀ i : Nat, i < 6 → i ≠ 0 → Calls Try.prog 46 #[.pointer (some ⟨h, 0, none⟩), .int .i64 (i : Int)] W fun e w' => e = .returned (.bool (grOf X.S i).stopped) ∧ W = w') := Lib.hid fun W hW =>
    ⟨(a.below hW).farm.h0, fun i hi h0 => fq_stopped (a.below hW) h0 (O.at_ hi)⟩
  obtain ⟨hm, hhm⟩ : ∃ hm, hm = homeN n := ⟨_, rfl⟩
  rw [← hhm] at MH hlt ⊢
  clear a O hhm
  go_enter Try.func35, Try.ntmps35
  go_wp2_with fail
  refine (MH.out _).mono ?_
  rintro r w1 ⟨rfl, hb1⟩
  have HB1 := Lib.hid hb1
  clear hb1
  go_wp2_with fail
  go_loopw [5] (fun s5 wr => ∃ gg : Nat, gg < 6 ∧ s5 = .int .i64 (gg : Int) ∧ Hid (Below w.heap.size w wr ∧ freeF X.S hm = freeF X.S gg)) (fun s5 _ => (ancN (intOf s5).toNat).length)
  case atStart => exact ⟨hm, hlt, rfl, HB1.out, rfl⟩
  case round =>
    obtain ⟨gg, hg6, rfl, HB⟩ := hrel
    by_cases h0 : gg = 0
    · subst h0
      have HB := HB
      go_wp2_with fail
      go_ret
      exact ⟨by rw [HB.out.2]; rfl, HB.out.1⟩
    · have z0 : ((gg : Int) != 0) = true := by simpa using h0
      obtain ⟨q0, MS1⟩ := MS.out _ HB.out.1
      have MS2 := MS1 gg hg6 h0
      have MP := Lib.hid fun W => parent_any gg hg6 W
      have hst := ancN_step gg hg6 h0
      obtain ⟨st, hs⟩ : ∃ st, st = (grOf X.S gg).stopped := ⟨_, rfl⟩
      rw [← hs] at MS2
      have MS2 := Lib.hid MS2
      have HS := Lib.hid (And.intro hs hst)
      have hpl := parN_lt gg hg6
      obtain ⟨pg, hpg⟩ : ∃ pg, pg = parN gg := ⟨_, rfl⟩
      rw [← hpg] at MP hpl
      have HP := Lib.hid hpg
      clear MS1 hs hst hpg h0
      cases st with
      | true =>
        go_wp2_with fail
        refine MS2.out.mono ?_
        rintro r w' ⟨rfl, rfl⟩
        go_wp2_with fail
        go_ret
        refine ⟨?_, HB.out.1⟩
        rw [HB.out.2, freeF, HS.out.2, List.all_cons, ← HS.out.1]
        rfl
      | false =>
        go_wp2_with fail
        refine MS2.out.mono ?_
        rintro r w' ⟨rfl, rfl⟩
        go_wp2_with fail
        refine (MP.out _).mono ?_
        rintro r w5 ⟨rfl, hb5⟩
        have HB5 := Lib.hid hb5
        clear hb5
        go_wp2_with fail
        go_roundw
        case rel =>
          refine ⟨pg, hpl, rfl, HB.out.1.trans (HB5.out.mono HB.out.1.size), ?_⟩
          rw [HB.out.2, freeF, HS.out.2, List.all_cons, ← HS.out.1, ← HP.out]
          rfl
        case measure =>
          simp only [intOf, Int.toNat_natCast]
          rw [HS.out.2, ← HP.out]
          exact Nat.lt_succ_self _
end

end Go.Proofs.Ytefekboacghnjaa
