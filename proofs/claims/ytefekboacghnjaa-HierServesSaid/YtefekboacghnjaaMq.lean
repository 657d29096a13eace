/-
  The farm of chapter 20 as data: what every piece of work keeps.
  The farm of chapter 20 as data: a piece of work.
  The farm of chapter 20: a piece of work that wakes, stops, weighs.
  The farm of chapter 20: a piece of work that stops, weighs.
  The farm of chapter 20: a piece of work that weighs.
-/
import Derived.Test.YtefekboacghnjaaMo
import Derived.Test.YtefekboacghnjaaMp

namespace Go.Proofs.Ytefekboacghnjaa
open Go.RowKit Go.Maps

def Has (X : QS) (k : Int) : Prop := ∃ e, e ∈ X.L ∧ e.id = k
/-- the same groups, with the same tasks in their queues -/
structure Sim (S S' : HS) : Prop where
  gr : S'.gran = S.gran
  cr : S'.credit = S.credit
  no : ∀ j, S.G j = none → S'.G j = none
  G : ∀ j y, S.G j = some y → ∃ y', S'.G j = some y' ∧ y'.up = y.up ∧ ∀ k : Int, k % 2 = 0 → (Has y'.q k ↔ Has y.q k)
theorem Sim.refl (S : HS) : Sim S S := ⟨rfl, rfl, fun _ h => h, fun _ y h => ⟨y, h, rfl, fun _ _ => Iff.rfl⟩⟩
theorem Sim.trans {S S' S'' : HS} (a : Sim S S') (b : Sim S' S'') : Sim S S'' :=
  ⟨b.gr.trans a.gr, b.cr.trans a.cr, fun j h => b.no j (a.no j h), fun j y h => by
    obtain ⟨y', h1, h2, h3⟩ := a.G j y h
    obtain ⟨y'', k1, k2, k3⟩ := b.G j y' h1
    exact ⟨y'', k1, k2.trans h2, fun k hk => (k3 k hk).trans (h3 k hk)⟩⟩
theorem Sim.put {S : HS} {i : Nat} {x y : Gr} (hi : S.G i = some x) (h1 : y.up = x.up) (h2 : ∀ k : Int, k % 2 = 0 → (Has y.q k ↔ Has x.q k)) : Sim S (S.put i (some y)) :=
  ⟨rfl, rfl, fun j h => by
    by_cases hj : j = i
    · subst hj; rw [hi] at h; simp at h
    · rw [HS.put_other _ _ hj]; exact h, fun j z h => by
    by_cases hj : j = i
    · subst hj
      rw [hi] at h
      injection h with h
      subst h
      exact ⟨y, HS.put_same _ _ _, h1, h2⟩
    · exact ⟨z, (HS.put_other _ _ hj).trans h, rfl, fun _ _ => Iff.rfl⟩⟩
theorem has_ids {X Y : QS} (h : Y.L.map (·.id) = X.L.map (·.id)) (k : Int) : Has Y k ↔ Has X k := by
  have e : ∀ Z : QS, Has Z k ↔ k ∈ Z.L.map (·.id) := fun Z => by
    unfold Has
    rw [List.mem_map]
  rw [e, e, h]
theorem step_sim {S : HS} {i u : Nat} {x p : Gr} (I : HInv S) (h0 : i ≠ 0) (hi : S.G i = some x) (hp : S.G u = some p) (hne : u ≠ i) : Sim S (stepH S i u x p) := by
  have hid := (I.own i x h0 hi).id
  unfold stepH
  split
  · refine (Sim.put (y := { p with q := putQ p.q { x.own with v := wakeZ x.own.v p.q.mn S.credit } }) hp rfl fun k hk => ?_).trans (Sim.put (x := x) ((HS.put_other _ _ (Ne.symm hne)).trans hi) rfl fun _ _ => Iff.rfl)
    show Has (putQ p.q { x.own with v := wakeZ x.own.v p.q.mn S.credit }) k ↔ _
    by_cases hc : putC p.q { x.own with v := wakeZ x.own.v p.q.mn S.credit } = 0
    · unfold Has
      rw [putQ_L hc]
      constructor
      · rintro ⟨e, he, rfl⟩
        rcases List.mem_append.1 he with he | he
        · exact ⟨e, he, rfl⟩
        · rw [List.mem_singleton] at he
          subst he
          dsimp only at hk
          omega
      · rintro ⟨e, he, rfl⟩
        exact ⟨e, List.mem_append_left _ he, rfl⟩
    · rw [show putQ p.q { x.own with v := wakeZ x.own.v p.q.mn S.credit } = p.q from if_neg hc]
  · refine (Sim.put (y := { p with q := dropQ p.q (2 * (i : Int) + 1) }) hp rfl fun k hk => ?_).trans (Sim.put (x := x) ((HS.put_other _ _ (Ne.symm hne)).trans hi) rfl fun _ _ => Iff.rfl)
    show Has (dropQ p.q (2 * (i : Int) + 1)) k ↔ _
    unfold Has
    rw [dropQ_L]
    constructor
    · rintro ⟨e, he, rfl⟩
      exact ⟨e, (lessL_mem.1 he).1, rfl⟩
    · rintro ⟨e, he, rfl⟩
      exact ⟨e, lessL_mem.2 ⟨he, by omega⟩, rfl⟩
theorem settle_sim : ∀ (n : Nat) (S : HS) (i : Nat) (x : Gr), S.G i = some x → x.deep < n → HInv S → HSetX S i → Sim S (settleH n S i)
  | 0, _, _, _, _, h, _, _ => absurd h (Nat.not_lt_zero _)
  | n + 1, S, i, x, hi, hd, I, hS => by
    unfold settleH
    rw [hi]
    dsimp only
    by_cases hup : x.up = -1
    · rw [if_pos hup]; exact Sim.refl S
    · rw [if_neg hup]
      have h0 : i ≠ 0 := by
        rintro rfl
        obtain ⟨g, e1, e2, _⟩ := I.tree.root
        rw [hi] at e1
        injection e1 with e1
        subst e1
        exact hup e2
      by_cases hs : shouldB x = x.on
      · rw [if_pos hs]; exact Sim.refl S
      · rw [if_neg hs]
        obtain ⟨u, p, e1, e2, e3⟩ := I.tree.up i x h0 hi
        have eu : x.up.toNat = u := by omega
        rw [eu, e2]
        dsimp only
        obtain ⟨hne, _⟩ := I.tree.ne h0 hi e1 e2
        have I2 := step_inv I h0 hi e1 e2 hs
        have S2 := step_set hS (x := x) e2
        have hG : ∃ p2, (stepH S i u x p).G u = some p2 ∧ p2.deep = p.deep := by
          unfold stepH
          split
          · exact ⟨_, (HS.put_other _ _ hne).trans (HS.put_same _ _ _), rfl⟩
          · exact ⟨_, (HS.put_other _ _ hne).trans (HS.put_same _ _ _), rfl⟩
        obtain ⟨p2, g1, g2⟩ := hG
        exact (step_sim I h0 hi e2 hne).trans (settle_sim n _ u p2 g1 (by omega) I2 S2)
section
variable {c g : Int} {X : FSt} {S' : HS}
theorem FOk.sim (O : FOk c g X) (H : HGood S') (h : Sim X.S S') : FOk c g ⟨S', X.own, X.here⟩ := by
  have back : ∀ u x', S'.G u = some x' → ∃ x, X.S.G u = some x ∧ x'.up = x.up ∧ ∀ k : Int, k % 2 = 0 → (Has x'.q k ↔ Has x.q k) := fun u x' hx' => by
    cases hx : X.S.G u with
    | none => rw [h.no u hx] at hx'; simp at hx'
    | some x =>
      obtain ⟨y', h1, h2, h3⟩ := h.G u x hx
      rw [hx'] at h1
      injection h1 with h1
      subst h1
      exact ⟨x, rfl, h2, h3⟩
  refine ⟨H, h.cr.trans O.cr, h.gr.trans O.gr, fun i hi => ?_, fun i hi => h.no i (O.more i hi), O.own, fun n hn x' hx' => ?_, fun u x' hx' e he hev => ?_⟩
  · obtain ⟨x, hx, hu⟩ := O.link i hi
    obtain ⟨x', h1, h2, _⟩ := h.G i x hx
    exact ⟨x', h1, fun h0 => h2.trans (hu h0)⟩
  · obtain ⟨x, hx, _, h3⟩ := back _ x' hx'
    exact (O.here n hn x hx).trans (h3 (2 * (n : Int)) (by omega)).symm
  · obtain ⟨x, hx, _, h3⟩ := back _ x' hx'
    obtain ⟨e0, he0, hid⟩ := (h3 e.id hev).1 ⟨e, he, rfl⟩
    obtain ⟨n, h1, h2, h4⟩ := O.ids u x hx e0 he0 (by omega)
    exact ⟨n, h1, by omega, h4⟩
theorem same_sim {S : HS} {i : Nat} {x : Gr} (hi : S.G i = some x) {Q : QS} (h : Q.L.map (·.id) = x.q.L.map (·.id)) : Sim S (S.put i (some { x with q := Q })) :=
  Sim.put hi rfl fun k _ => has_ids h k
theorem pick_sim : ∀ (n : Nat) (S : HS) (g : Nat), Sim S (wayF pickN n S g).1
  | 0, S, _ => Sim.refl S
  | n + 1, S, g => by
    have h1 : Sim S (pickN S g).1 := by
      unfold pickN
      split
      · exact Sim.refl S
      · rename_i x hx
        exact same_sim hx rfl
    rw [wayF_succ]
    split
    · exact h1
    · exact h1.trans (pick_sim n _ _)
theorem charge_sim (ns : Nat) : ∀ (n : Nat) (S : HS) (g : Nat), Sim S (chargeF ns n S g)
  | 0, S, _ => Sim.refl S
  | n + 1, S, g => by
    unfold chargeF
    split
    · exact Sim.refl S
    · rename_i x hx
      have h1 : Sim S (S.put g (some { x with q := chargeQ x.q ns })) := same_sim hx (chargeQ_ids _ _)
      split
      · exact h1
      · exact h1.trans (charge_sim ns n _ _)
theorem chargeH_sim (ns : Nat) (S : HS) : Sim S (chargeH ns S) := by
  unfold chargeH
  split
  · exact Sim.refl S
  · exact charge_sim ns 9 S 0
theorem chargeH_good {S : HS} (H : HGood S) (ns : Nat) : HGood (chargeH ns S) := by
  unfold chargeH
  split
  · exact H
  · exact charge_good ns 9 S 0 H
theorem yield_sim (S : HS) : Sim S (yieldH 9 S) := by
  unfold yieldH
  split
  · exact pick_sim 9 S 0
  · split
    · exact Sim.refl S
    · rename_i x hx
      exact (same_sim hx (Q := yieldQ x.q S.gran) rfl).trans (pick_sim 9 _ 0)
theorem weigh_sim (S : HS) {i : Nat} {x : Gr} (hi : S.G i = some x) (wn : Nat) : Sim S (weighHS S i x wn) := by
  unfold weighHS
  split
  · split
    · exact Sim.refl S
    · rename_i p hp
      exact same_sim hp (weighQ_ids _ _ _)
  · exact Sim.put hi rfl fun _ _ => Iff.rfl
theorem stop_sim {S : HS} (H : HGood S) {i : Nat} {x : Gr} (h0 : i ≠ 0) (hi : S.G i = some x) (is : Bool) : Sim S (stopHS S i x is) := by
  have hd := H.inv.tree.deep i x hi
  exact (Sim.put (y := { x with stopped := is }) hi rfl fun _ _ => Iff.rfl).trans (settle_sim 9 _ i { x with stopped := is } (HS.put_same _ _ _) (by show x.deep < 9; omega) (H.inv.group hi rfl rfl rfl rfl fun _ => H.inv.own i x h0 hi) (H.set.group _))
/-- a task that wakes can be put -/
theorem FOk.fits (O : FOk c g X) {n : Nat} (hn : n < 8) (hh : X.here n = false) (mn : Int) : putC (grOf X.S (homeN n)).q (dblE (awakened (X.own n) mn c)) = 0 := by
  have T := O.own n hn
  have hgr := O.at_ (home_lt n)
  have hlen := O.good.inv.len hgr
  have hid := T.id
  have hw1 := T.w1
  have hw2 := T.w2
  have hr := T.r
  have hnot : (2 * (n : Int)) ∉ (grOf X.S (homeN n)).q.L.map (·.id) := fun hm => by
    obtain ⟨e, he, hie⟩ := List.mem_map.1 hm
    have := (O.here n hn _ hgr).2 ⟨e, he, hie⟩
    rw [hh] at this
    simp at this
  unfold putC dblE awakened
  dsimp only
  rw [if_neg (by omega), if_neg (by omega), if_neg (by omega), if_neg (by rw [hid]; exact hnot), if_neg (by omega)]
theorem FOk.wake (O : FOk c g X) {n : Nat} (hn : n < 8) : FOk c g (wakeF c X n) := by
  have T := O.own n hn
  have hgr := O.at_ (home_lt n)
  have hd := O.good.inv.tree.deep _ _ hgr
  have hqok := O.good.inv.qok _ _ hgr
  unfold wakeF
  cases hh : X.here n with
  | true =>
    rw [if_pos rfl]
    obtain ⟨e, he, hid⟩ := (O.here n hn _ hgr).1 hh
    have hget : (grOf X.S (homeN n)).q.get (2 * (n : Int)) = some e := by
      rw [← hid]
      exact hqok.get he
    rw [hget]
    dsimp only
    have hgood := drop_good O.good hgr (n : Int)
    have hdr : dropHS X.S (homeN n) (grOf X.S (homeN n)) (2 * (n : Int)) = settleH 9 (X.S.put (homeN n) (some { grOf X.S (homeN n) with q := dropQ (grOf X.S (homeN n)).q (2 * (n : Int)) })) (homeN n) := by
      unfold dropHS
      rw [hget]
    rw [hdr] at hgood ⊢
    have hsim := settle_sim 9 (X.S.put (homeN n) (some { grOf X.S (homeN n) with q := dropQ (grOf X.S (homeN n)).q (2 * (n : Int)) })) (homeN n) { grOf X.S (homeN n) with q := dropQ (grOf X.S (homeN n)).q (2 * (n : Int)) } (HS.put_same _ _ _) (by show (grOf X.S (homeN n)).deep < 9; omega) (O.good.inv.queue hgr (hqok.dropQ _) (fun e' he' => by
      rw [dropQ_L] at he'
      exact .inl ⟨e', (lessL_mem.1 he').1, rfl⟩) (fun e' he' ho => by
      rw [dropQ_L]
      exact ⟨e', lessL_mem.2 ⟨he', by omega⟩, rfl⟩)) (O.good.set.queue hgr)
    have heok := hqok.ents e he
    have hhas : ∀ k : Int, Has (dropQ (grOf X.S (homeN n)).q (2 * (n : Int))) k ↔ Has (grOf X.S (homeN n)).q k ∧ k ≠ 2 * (n : Int) := fun k => by
      unfold Has
      rw [dropQ_L]
      constructor
      · rintro ⟨e, he, rfl⟩
        exact ⟨⟨e, (lessL_mem.1 he).1, rfl⟩, (lessL_mem.1 he).2⟩
      · rintro ⟨⟨e, he, rfl⟩, hk⟩
        exact ⟨e, lessL_mem.2 ⟨he, hk⟩, rfl⟩
    have O1 : FOk c g ⟨settleH 9 (X.S.put (homeN n) (some { grOf X.S (homeN n) with q := dropQ (grOf X.S (homeN n)).q (2 * (n : Int)) })) (homeN n), updO2 X.own n { e with id := (n : Int) }, updB X.here n false⟩ := by
      have mid : ∀ u x, (X.S.put (homeN n) (some { grOf X.S (homeN n) with q := dropQ (grOf X.S (homeN n)).q (2 * (n : Int)) })).G u = some x → ∃ x0, X.S.G u = some x0 ∧ x.up = x0.up ∧ ∀ k : Int, Has x.q k ↔ Has x0.q k ∧ (u = homeN n → k ≠ 2 * (n : Int)) := fun u x hx => by
        by_cases hu : u = homeN n
        · rw [hu] at hx ⊢
          rw [HS.put_same] at hx
          injection hx with hx
          subst hx
          refine ⟨_, hgr, rfl, fun k => ?_⟩
          rw [show Has ({ grOf X.S (homeN n) with q := dropQ (grOf X.S (homeN n)).q (2 * (n : Int)) } : Gr).q k ↔ _ from hhas k]
          exact ⟨fun h => ⟨h.1, fun _ => h.2⟩, fun h => ⟨h.1, h.2 rfl⟩⟩
        · rw [HS.put_other _ _ hu] at hx
          exact ⟨x, hx, rfl, fun k => ⟨fun h => ⟨h, fun e => absurd e hu⟩, fun h => h.1⟩⟩
      have back : ∀ u x', (settleH 9 (X.S.put (homeN n) (some { grOf X.S (homeN n) with q := dropQ (grOf X.S (homeN n)).q (2 * (n : Int)) })) (homeN n)).G u = some x' → ∃ x0, X.S.G u = some x0 ∧ x'.up = x0.up ∧ ∀ k : Int, k % 2 = 0 → (Has x'.q k ↔ Has x0.q k ∧ (u = homeN n → k ≠ 2 * (n : Int))) := fun u x' hx' => by
        cases hx : (X.S.put (homeN n) (some { grOf X.S (homeN n) with q := dropQ (grOf X.S (homeN n)).q (2 * (n : Int)) })).G u with
        | none => rw [hsim.no u hx] at hx'; simp at hx'
        | some x =>
          obtain ⟨y', h1, h2, h3⟩ := hsim.G u x hx
          rw [hx'] at h1
          injection h1 with h1
          subst h1
          obtain ⟨x0, k1, k2, k3⟩ := mid u x hx
          exact ⟨x0, k1, h2.trans k2, fun k hk => (h3 k hk).trans (k3 k)⟩
      refine ⟨hgood, hsim.cr.trans O.cr, hsim.gr.trans O.gr, fun i hi => ?_, fun i hi => hsim.no i ?_, fun m hm => ?_, fun m hm x' hx' => ?_, fun u x' hx' e' he' hev => ?_⟩
      · by_cases hi2 : i = homeN n
        · obtain ⟨x', h1, h2, _⟩ := hsim.G i _ (by rw [hi2]; exact HS.put_same _ _ _)
          exact ⟨x', h1, fun h0 => h2.trans (by
            have := O.up hi h0
            rw [hi2] at this ⊢
            exact this)⟩
        · obtain ⟨x, hx, hu⟩ := O.link i hi
          obtain ⟨x', h1, h2, _⟩ := hsim.G i x ((HS.put_other _ _ hi2).trans hx)
          exact ⟨x', h1, fun h0 => h2.trans (hu h0)⟩
      · have := home_lt n
        exact (HS.put_other _ _ (by omega)).trans (O.more i hi)
      · show TaskOk m (updO2 X.own n { e with id := (n : Int) } m)
        unfold updO2
        by_cases hmn : m = n
        · rw [if_pos hmn, hmn]
          exact ⟨rfl, heok.w1, heok.w2, heok.v1, heok.v2, heok.r⟩
        · rw [if_neg hmn]; exact O.own m hm
      · obtain ⟨x0, k1, _, k3⟩ := back _ x' hx'
        show updB X.here n false m = true ↔ _
        have k4 := k3 (2 * (m : Int)) (by omega)
        unfold Has at k4
        rw [k4]
        unfold updB
        by_cases hmn : m = n
        · subst hmn
          rw [if_pos rfl]
          constructor
          · intro h; simp at h
          · rintro ⟨_, h⟩; exact absurd rfl (h rfl)
        · rw [if_neg hmn]
          constructor
          · intro h
            exact ⟨(O.here m hm x0 k1).1 h, fun _ => by omega⟩
          · rintro ⟨h, _⟩
            exact (O.here m hm x0 k1).2 h
      · obtain ⟨x0, k1, _, k3⟩ := back u x' hx'
        obtain ⟨⟨e0, he0, hid0⟩, _⟩ := (k3 e'.id hev).1 ⟨e', he', rfl⟩
        obtain ⟨m, h1, h2, h4⟩ := O.ids u x0 k1 e0 he0 (by omega)
        exact ⟨m, h1, by omega, h4⟩
    exact O1
  | false =>
    rw [if_neg (by decide)]
    have hfit := O.fits hn hh (grOf X.S (homeN n)).q.mn
    have hlb := lowZ_i64 (grOf X.S (homeN n)).q.mn c
    have hv1 := T.v1
    have hv2 := T.v2
    have hid := T.id
    have hvv : -9223372036854775808 ≤ max (X.own n).v (lowZ (grOf X.S (homeN n)).q.mn c) ∧ max (X.own n).v (lowZ (grOf X.S (homeN n)).q.mn c) ≤ 9223372036854775807 := by omega
    have hgood := put_good O.good hgr (e := dblE (awakened (X.own n) (grOf X.S (homeN n)).q.mn c)) (t := n) (by omega) (by show 2 * (X.own n).id = _; omega) hvv
    have hL := putQ_L hfit
    have hdr : putHS X.S (homeN n) (grOf X.S (homeN n)) (dblE (awakened (X.own n) (grOf X.S (homeN n)).q.mn c)) = settleH 9 (X.S.put (homeN n) (some { grOf X.S (homeN n) with q := putQ (grOf X.S (homeN n)).q (dblE (awakened (X.own n) (grOf X.S (homeN n)).q.mn c)) })) (homeN n) := by
      unfold putHS
      rw [if_pos hfit]
    rw [hdr] at hgood ⊢
    rw [hfit]
    have heid : (dblE (awakened (X.own n) (grOf X.S (homeN n)).q.mn c)).id = 2 * (n : Int) := by show 2 * (X.own n).id = _; omega
    have hEv : -9223372036854775808 ≤ (dblE (awakened (X.own n) (grOf X.S (homeN n)).q.mn c)).v ∧ (dblE (awakened (X.own n) (grOf X.S (homeN n)).q.mn c)).v ≤ 9223372036854775807 := hvv
    generalize dblE (awakened (X.own n) (grOf X.S (homeN n)).q.mn c) = E at *
    have hsim := settle_sim 9 (X.S.put (homeN n) (some { grOf X.S (homeN n) with q := putQ (grOf X.S (homeN n)).q E })) (homeN n) { grOf X.S (homeN n) with q := putQ (grOf X.S (homeN n)).q E } (HS.put_same _ _ _) (by show (grOf X.S (homeN n)).deep < 9; omega) (O.good.inv.queue hgr (hqok.put (by omega) hEv) (fun e' he' => by
      rw [hL, List.mem_append] at he'
      rcases he' with he' | he'
      · exact .inl ⟨e', he', rfl⟩
      · rw [List.mem_singleton] at he'
        subst he'
        exact .inr ⟨n, by omega, heid⟩) (fun e' he' _ => by
      rw [hL]
      exact ⟨e', List.mem_append_left _ he', rfl⟩)) (O.good.set.queue hgr)
    have hhas : ∀ k : Int, Has (putQ (grOf X.S (homeN n)).q E) k ↔ Has (grOf X.S (homeN n)).q k ∨ k = 2 * (n : Int) := fun k => by
      unfold Has
      rw [hL]
      constructor
      · rintro ⟨e, he, rfl⟩
        rcases List.mem_append.1 he with he | he
        · exact .inl ⟨e, he, rfl⟩
        · rw [List.mem_singleton] at he
          subst he
          exact .inr heid
      · rintro (⟨e, he, rfl⟩ | rfl)
        · exact ⟨e, List.mem_append_left _ he, rfl⟩
        · exact ⟨E, by simp, heid⟩
    have mid : ∀ u x, (X.S.put (homeN n) (some { grOf X.S (homeN n) with q := putQ (grOf X.S (homeN n)).q E })).G u = some x → ∃ x0, X.S.G u = some x0 ∧ x.up = x0.up ∧ ∀ k : Int, Has x.q k ↔ Has x0.q k ∨ (u = homeN n ∧ k = 2 * (n : Int)) := fun u x hx => by
      by_cases hu : u = homeN n
      · rw [hu] at hx ⊢
        rw [HS.put_same] at hx
        injection hx with hx
        subst hx
        refine ⟨_, hgr, rfl, fun k => ?_⟩
        rw [show Has ({ grOf X.S (homeN n) with q := putQ (grOf X.S (homeN n)).q E } : Gr).q k ↔ _ from hhas k]
        exact ⟨fun h => h.imp id fun h => ⟨rfl, h⟩, fun h => h.imp id fun h => h.2⟩
      · rw [HS.put_other _ _ hu] at hx
        exact ⟨x, hx, rfl, fun k => ⟨fun h => .inl h, fun h => h.elim id fun h => absurd h.1 hu⟩⟩
    have back : ∀ u x', (settleH 9 (X.S.put (homeN n) (some { grOf X.S (homeN n) with q := putQ (grOf X.S (homeN n)).q E })) (homeN n)).G u = some x' → ∃ x0, X.S.G u = some x0 ∧ x'.up = x0.up ∧ ∀ k : Int, k % 2 = 0 → (Has x'.q k ↔ Has x0.q k ∨ (u = homeN n ∧ k = 2 * (n : Int))) := fun u x' hx' => by
      cases hx : (X.S.put (homeN n) (some { grOf X.S (homeN n) with q := putQ (grOf X.S (homeN n)).q E })).G u with
      | none => rw [hsim.no u hx] at hx'; simp at hx'
      | some x =>
        obtain ⟨y', h1, h2, h3⟩ := hsim.G u x hx
        rw [hx'] at h1
        injection h1 with h1
        subst h1
        obtain ⟨x0, k1, k2, k3⟩ := mid u x hx
        exact ⟨x0, k1, h2.trans k2, fun k hk => (h3 k hk).trans (k3 k)⟩
    refine ⟨hgood, hsim.cr.trans O.cr, hsim.gr.trans O.gr, fun i hi => ?_, fun i hi => hsim.no i ?_, O.own, fun m hm x' hx' => ?_, fun u x' hx' e' he' hev => ?_⟩
    · by_cases hi2 : i = homeN n
      · obtain ⟨x', h1, h2, _⟩ := hsim.G i _ (by rw [hi2]; exact HS.put_same _ _ _)
        exact ⟨x', h1, fun h0 => h2.trans (by
          have := O.up hi h0
          rw [hi2] at this ⊢
          exact this)⟩
      · obtain ⟨x, hx, hu⟩ := O.link i hi
        obtain ⟨x', h1, h2, _⟩ := hsim.G i x ((HS.put_other _ _ hi2).trans hx)
        exact ⟨x', h1, fun h0 => h2.trans (hu h0)⟩
    · have := home_lt n
      exact (HS.put_other _ _ (by omega)).trans (O.more i hi)
    · obtain ⟨x0, k1, _, k3⟩ := back _ x' hx'
      show updB X.here n (0 == 0) m = true ↔ _
      have k4 := k3 (2 * (m : Int)) (by omega)
      unfold Has at k4
      rw [k4]
      unfold updB
      by_cases hmn : m = n
      · subst hmn
        rw [if_pos rfl]
        exact ⟨fun _ => .inr ⟨rfl, rfl⟩, fun _ => rfl⟩
      · rw [if_neg hmn]
        constructor
        · intro h
          exact .inl ((O.here m hm x0 k1).1 h)
        · rintro (h | ⟨_, h⟩)
          · exact (O.here m hm x0 k1).2 h
          · exact absurd (by omega : m = n) hmn
    · obtain ⟨x0, k1, _, k3⟩ := back u x' hx'
      rcases (k3 e'.id hev).1 ⟨e', he', rfl⟩ with ⟨e0, he0, hid0⟩ | ⟨h1, h2⟩
      · obtain ⟨m, h1, h2, h4⟩ := O.ids u x0 k1 e0 he0 (by omega)
        exact ⟨m, h1, by omega, h4⟩
      · exact ⟨n, hn, h2, h1.symm⟩
end

end Go.Proofs.Ytefekboacghnjaa

namespace Go.Proofs.Ytefekboacghnjaa
open Go.RowKit Go.Maps

/-- a piece of work -/
structure FW where
  kind : Int
  who : Int
  wt : Nat
  ns : Nat
  is : Bool
structure FW.num (x : FW) : Prop where
  k1 : -9223372036854775808 ≤ x.kind
  k2 : x.kind ≤ 9223372036854775807
  o1 : -9223372036854775808 ≤ x.who
  o2 : x.who ≤ 9223372036854775807
  w : x.wt < 4294967296
  n : x.ns < 4294967296
def FW.n8 (x : FW) : Nat := (x.who % 8).toNat
theorem FW.n8_lt (x : FW) : x.n8 < 8 := by unfold FW.n8; omega
theorem and7 (a : Int) (_h1 : -9223372036854775808 ≤ a) (_h2 : a ≤ 9223372036854775807) : bits .and .i64 a 7 = a % 8 := by
  rw [bits_and]
  have h3 : (BitVec.ofInt 64 a &&& BitVec.ofInt 64 7).toNat = (BitVec.ofInt 64 a).toNat % 8 := by
    rw [BitVec.toNat_and]
    show (BitVec.ofInt 64 a).toNat &&& (2 ^ 3 - 1) = _
    rw [Nat.and_two_pow_sub_one_eq_mod]
  have h4 : ((BitVec.ofInt 64 a).toNat : Int) = a % 18446744073709551616 := by
    rw [BitVec.toNat_ofInt]
    omega
  rw [BitVec.toInt_eq_toNat_cond, if_pos (by rw [h3]; omega), h3]
  omega
def gOf (n : Nat) : Nat := 1 + n % 5
theorem gOf_lt (n : Nat) : gOf n < 6 := by unfold gOf; omega
theorem gOf_ne (n : Nat) : gOf n ≠ 0 := by unfold gOf; omega
/-- ahead of the last Pick -/
def workF0 (c : Int) (t : Nat) (X : FSt) (x : FW) : FSt :=
  if x.kind = 0 then wakeF c X x.n8
  else if x.kind = 1 then ⟨stopHS X.S (gOf x.n8) (grOf X.S (gOf x.n8)) x.is, X.own, X.here⟩
  else if x.kind = 2 then ⟨weighHS X.S (gOf x.n8) (grOf X.S (gOf x.n8)) (64 + x.wt % 4032), X.own, X.here⟩
  else ⟨chargeH (x.ns % (t + 1)) (if x.is then yieldH 9 X.S else X.S), X.own, X.here⟩
def workF (c : Int) (t : Nat) (X : FSt) (x : FW) : FSt := ⟨pickH 9 (workF0 c t X x).S, (workF0 c t X x).own, (workF0 c t X x).here⟩
section
variable {c g : Int} {X : FSt}
theorem FOk.work0 (O : FOk c g X) (t : Nat) (x : FW) : FOk c g (workF0 c t X x) := by
  unfold workF0
  have hgr := O.at_ (gOf_lt x.n8)
  split
  · exact O.wake x.n8_lt
  · split
    · exact O.sim (stop_good O.good (gOf_ne _) hgr _) (stop_sim O.good (gOf_ne _) hgr _)
    · split
      · exact O.sim (weigh_good O.good (gOf_ne _) hgr (by omega) (by omega)) (weigh_sim _ hgr _)
      · by_cases hi : x.is = true
        · rw [if_pos hi]
          exact O.sim (chargeH_good (yield_good O.good) _) ((yield_sim _).trans (chargeH_sim _ _))
        · rw [if_neg hi]
          exact O.sim (chargeH_good O.good _) (chargeH_sim _ _)
theorem FOk.work (O : FOk c g X) (t : Nat) (x : FW) : FOk c g (workF c t X x) := by
  have O0 := O.work0 t x
  exact O0.sim (pick_good O0.good) (pick_sim 9 _ 0)
end

end Go.Proofs.Ytefekboacghnjaa

namespace Go.Proofs.Ytefekboacghnjaa
open Go.RowKit Go.Maps

abbrev fwV (x : FW) : Value := .agg #[.int .i64 x.kind, .int .i64 x.who, .int .u32 (x.wt : Nat), .int .u32 (x.ns : Nat), .bool x.is]
section
variable {w0 w : World} {ks : List (Nat × Obj)} {p h : Nat} {X : FSt} {K : Int} {c g : Int} {t : Nat}
theorem fwake_any (a : FQ w0 ks w p h X.S K X.own X.here c g t) (O : FOk c g X) (hK : K + 10000 ≤ 1000000000000000) (n : Nat) (hn : n < 8) :
    Calls Try.prog 89 #[.pointer (some ⟨p, 0, none⟩), .int .i64 (n : Int)] w fun r w' => r = .returned (.tuple #[]) ∧ Hid (FQ w0 ks w' p h (wakeF c X n).S (K + 10000) (wakeF c X n).own (wakeF c X n).here c g t) := by
  cases hh : X.here n with
  | true => exact wake_drop a O hK n hn hh
  | false => exact wake_put a O hK n hn hh
theorem work_pick {W : World} {Y : FSt} (a : FQ w0 ks W p h Y.S K Y.own Y.here c g t) (O : FOk c g Y) (g0 : 0 ≤ g) (g1 : g ≤ 65535) :
    Calls Try.prog 50 #[.pointer (some ⟨h, 0, none⟩)] W fun r w' => (∃ m, r = .returned (.int .i64 m)) ∧ Hid (FQ w0 ks w' p h (pickH 9 Y.S) K Y.own Y.here c g t) :=
  (fq_pick a O.good (by rw [O.gr]; omega) (by rw [O.gr]; omega)).mono fun _ _ hp => ⟨⟨_, hp.1⟩, hp.2⟩
theorem heavy20_any (n : Nat) (hn : n < 4294967296) (w : World) : Calls Try.prog 90 #[.int .u32 (n : Nat)] w fun e w' => e = .returned (.int .u64 ((64 + n % 4032 : Nat) : Int)) ∧ w = w' := by
  obtain ⟨m, hm⟩ : ∃ m, m = n % 4032 := ⟨_, rfl⟩
  have e1 : (n : Int) % 4032 = (m : Int) := by omega
  have hm2 : m < 4032 := by omega
  rw [← hm]
  clear hm
  go_enter Try.func90, Try.ntmps90
  go_wp2_with fail
  go_ret
  exact ⟨rfl, rfl⟩
set_option maxRecDepth 100000 in
set_option maxHeartbeats 8000000 in
theorem work_0 (a : FQ w0 ks w p h X.S K X.own X.here c g t) (O : FOk c g X) (hK : K + 10000 ≤ 1000000000000000) (g0 : 0 ≤ g) (g1 : g ≤ 65535) (x : FW) (hx : x.num) (hk : x.kind = 0) :
    Calls Try.prog 34 #[.pointer (some ⟨p, 0, none⟩), fwV x] w fun r w' => r = .returned (.tuple #[]) ∧ Hid (FQ w0 ks w' p h (workF c t X x).S (K + 10000) (workF c t X x).own (workF c t X x).here c g t) := by
  have hw0 : workF0 c t X x = wakeF c X x.n8 := if_pos hk
  have hO := O.work0 t x
  have e7 := and7 x.who hx.o1 hx.o2
  have hn8 := x.n8_lt
  have e8 : x.who % 8 = ((x.n8 : Nat) : Int) := by unfold FW.n8; omega
  rw [e8] at e7
  obtain ⟨n, hn⟩ : ∃ n, n = x.n8 := ⟨_, rfl⟩
  rw [← hn] at e7 hn8 hw0
  have MW : Hid (∀ W, Below w.heap.size w W → Calls Try.prog 89 #[.pointer (some ⟨p, 0, none⟩), .int .i64 (n : Int)] W fun r w' => r = .returned (.tuple #[]) ∧ (w'.cell? ⟨p, 0, none⟩ = some (.pointer (some ⟨h, 0, none⟩))) ∧ Hid (FQ w0 ks w' p h (workF0 c t X x).S (K + 10000) (workF0 c t X x).own (workF0 c t X x).here c g t)) := Lib.hid fun W hW => by
    refine (fwake_any (a.below hW) O hK n hn8).mono fun r w' hp => ?_
    rw [hw0]
    exact ⟨hp.1, hp.2.out.farm.h0, hp.2⟩
  have MP : Hid (∀ W, FQ w0 ks W p h (workF0 c t X x).S (K + 10000) (workF0 c t X x).own (workF0 c t X x).here c g t → Calls Try.prog 50 #[.pointer (some ⟨h, 0, none⟩)] W fun r w' => (∃ m, r = .returned (.int .i64 m)) ∧ Hid (FQ w0 ks w' p h (workF c t X x).S (K + 10000) (workF c t X x).own (workF c t X x).here c g t)) := Lib.hid fun W hW => work_pick hW hO g0 g1
  have hb : Below w.heap.size w (w.alloc (.cells #[.int .i64 x.kind, .int .i64 x.who, .int .u32 (x.wt : Nat), .int .u32 (x.ns : Nat), .bool x.is] 67)) := (Below.refl _ _).alloc (Nat.le_refl _) _
  obtain ⟨xk, xo, xw, xn, xi⟩ := x
  dsimp only at hk e7 hb
  subst hk
  have HB := Lib.hid hb
  clear a O hO hx hn e8 hw0 hb
  go_enter Try.func34, Try.ntmps34
  go_wp2_with fail
  refine (MW.out _ HB.out).mono ?_
  rintro r w1 ⟨rfl, q0, HQ⟩
  clear MW
  go_wp2_with fail
  refine (MP.out _ HQ.out).mono ?_
  rintro r w2 ⟨⟨m, rfl⟩, HQ2⟩
  clear MP q0
  go_wp2_with fail
  go_end0
  exact ⟨rfl, HQ2⟩
end

end Go.Proofs.Ytefekboacghnjaa

namespace Go.Proofs.Ytefekboacghnjaa
open Go.RowKit Go.Maps

section
variable {w0 w w' : World} {ks : List (Nat × Obj)} {p h : Nat} {X : FSt} {S : HS} {K : Int} {own : Nat → En} {here : Nat → Bool} {c g : Int} {t : Nat}
theorem FQ.keep (a : FQ w0 ks w p h S K own here c g t) (k : Below w.heap.size w w') {b : Nat} {o : Obj} (hb : w'.heap[b]? = some o) (hlt : w.heap.size ≤ b) : FQ w0 ((b, o) :: ks) w' p h S K own here c g t := by
  have a' := a.below k
  obtain ⟨F, h1, h2, h3, h4, h5⟩ := a.ex
  refine ⟨⟨F, h1.below k, h2.trans (k.mono h2.size), h3, h4, fun z hz => ?_⟩, a'.pb, a'.farm⟩
  rw [List.mem_cons] at hz
  rcases hz with e | hz
  · subst e
    refine ⟨fun hF => ?_, ?_, hb⟩
    · have := h1.lt b hF
      omega
    · have := a.farm.lt
      show b ≠ p
      omega
  · obtain ⟨k1, k2, k3⟩ := h5 z hz
    exact ⟨k1, k2, (k.block z.1 (Array.getElem?_eq_some_iff.1 k3).1).trans k3⟩
theorem FQ.loose {z : Nat × Obj} (a : FQ w0 (z :: ks) w p h S K own here c g t) : FQ w0 ks w p h S K own here c g t := by
  obtain ⟨F, h1, h2, h3, h4, h5⟩ := a.ex
  exact ⟨⟨F, h1, h2, h3, h4, fun y hy => h5 y (List.mem_cons_of_mem _ hy)⟩, a.pb, a.farm⟩
set_option maxRecDepth 100000 in
set_option maxHeartbeats 8000000 in
theorem work_1 (a : FQ w0 ks w p h X.S K X.own X.here c g t) (O : FOk c g X) (hK : K + 10000 ≤ 1000000000000000) (g0 : 0 ≤ g) (g1 : g ≤ 65535) (x : FW) (hx : x.num) (hk : x.kind = 1) :
    Calls Try.prog 34 #[.pointer (some ⟨p, 0, none⟩), fwV x] w fun r w' => r = .returned (.tuple #[]) ∧ Hid (FQ w0 ks w' p h (workF c t X x).S (K + 10000) (workF c t X x).own (workF c t X x).here c g t) := by
  have hw0 : workF0 c t X x = ⟨stopHS X.S (gOf x.n8) (grOf X.S (gOf x.n8)) x.is, X.own, X.here⟩ := by
    unfold workF0
    rw [if_neg (by omega), if_pos hk]
  have hO := O.work0 t x
  have e7 := and7 x.who hx.o1 hx.o2
  have hn8 := x.n8_lt
  have e8 : x.who % 8 = ((x.n8 : Nat) : Int) := by unfold FW.n8; omega
  rw [e8] at e7
  obtain ⟨n, hn⟩ : ∃ n, n = x.n8 := ⟨_, rfl⟩
  rw [← hn] at e7 hn8 hw0
  have MW : Hid (∀ W, Below w.heap.size w W → W.cell? ⟨p, 0, none⟩ = some (.pointer (some ⟨h, 0, none⟩)) ∧ Calls Try.prog 49 #[.pointer (some ⟨h, 0, none⟩), .int .i64 ((gOf n : Nat) : Int), .bool x.is] W fun r w' => r = .returned (.int .i64 0) ∧ Hid (FQ w0 ks w' p h (workF0 c t X x).S (K + 10000) (workF0 c t X x).own (workF0 c t X x).here c g t)) := Lib.hid fun W hW => by
    have aW := a.below hW
    rw [hw0]
    exact ⟨aW.farm.h0, fq_stop aW O.good hK (gOf_ne n) (O.at_ (gOf_lt n)) x.is⟩
  have MP : Hid (∀ W, FQ w0 ks W p h (workF0 c t X x).S (K + 10000) (workF0 c t X x).own (workF0 c t X x).here c g t → Calls Try.prog 50 #[.pointer (some ⟨h, 0, none⟩)] W fun r w' => (∃ m, r = .returned (.int .i64 m)) ∧ Hid (FQ w0 ks w' p h (workF c t X x).S (K + 10000) (workF c t X x).own (workF c t X x).here c g t)) := Lib.hid fun W hW => work_pick hW hO g0 g1
  obtain ⟨r5, hr5⟩ : ∃ r5, r5 = n % 5 := ⟨_, rfl⟩
  have f1 : ((n : Nat) : Int).tmod 5 = (r5 : Int) := by rw [Int.tmod_eq_emod_of_nonneg (Int.natCast_nonneg _)]; omega
  have f2 : IntKind.i64.wrap (1 + (r5 : Int)) = ((gOf n : Nat) : Int) := by rw [IntKind.wrap_i64]; unfold gOf; omega
  obtain ⟨gi, hgi⟩ : ∃ gi, gi = gOf n := ⟨_, rfl⟩
  rw [← hgi] at f2 MW
  obtain ⟨xk, xo, xw, xn, xi⟩ := x
  dsimp only at hk e7 MW
  subst hk
  obtain ⟨W2, hW2⟩ : ∃ W2, W2 = w.alloc (.cells #[.int .i64 1, .int .i64 xo, .int .u32 (xw : Nat), .int .u32 (xn : Nat), .bool xi] 67) := ⟨_, rfl⟩
  have hb : Below w.heap.size w W2 := by rw [hW2]; exact (Below.refl _ _).alloc (Nat.le_refl _) _
  have hx2 : Blk W2 w.heap.size #[.int .i64 1, .int .i64 xo, .int .u32 (xw : Nat), .int .u32 (xn : Nat), .bool xi] 67 := by rw [hW2]; exact Blk.new _ _ _
  have HB := Lib.hid hb
  have HF := Lib.hid (And.intro f1 f2)
  clear a O hO hx hn e8 hw0 hb hr5 hgi f1 f2
  go_enter Try.func34, Try.ntmps34
  go_wp2_with fail
  rw [← hW2]
  have b4 : W2.cell? ⟨w.heap.size, 4, none⟩ = some (.bool xi) := Blk.cell hx2 4
  obtain ⟨q0, MW2⟩ := MW.out W2 HB.out
  have MW2 : Hid (∀ W, Below W2.heap.size W2 W → Calls Try.prog 49 #[.pointer (some ⟨h, 0, none⟩), .int .i64 (gi : Int), .bool xi] W fun r w' => r = .returned (.int .i64 0) ∧ Hid (FQ w0 ks w' p h (workF0 c t X ⟨1, xo, xw, xn, xi⟩).S (K + 10000) (workF0 c t X ⟨1, xo, xw, xn, xi⟩).own (workF0 c t X ⟨1, xo, xw, xn, xi⟩).here c g t)) := Lib.hid fun W hW => (MW.out W (HB.out.trans (hW.mono HB.out.size))).2
  have f1 := HF.out.1
  have f2 := HF.out.2
  clear hW2 hx2 MW
  apply wp_region_to (fun W => Hid (FQ w0 ks W p h (workF0 c t X ⟨1, xo, xw, xn, xi⟩).S (K + 10000) (workF0 c t X ⟨1, xo, xw, xn, xi⟩).own (workF0 c t X ⟨1, xo, xw, xn, xi⟩).here c g t))
  case h =>
    go_region_with (go_at_call 49; refine (MW2.out _ (by first | exact (Below.refl _ _).drew | exact Below.refl _ _)).mono ?_; rintro r w7 ⟨rfl, HQ⟩)
    all_goals exact ⟨rfl, HQ⟩
  intro W9 HQ9
  have q9 := HQ9.out.farm.h0
  clear MW2 b4 q0 f1 f2
  go_wp2_with fail
  refine (MP.out _ HQ9.out).mono ?_
  rintro r w2 ⟨⟨m, rfl⟩, HQ2⟩
  clear MP
  go_wp2_with fail
  go_end0
  exact ⟨rfl, HQ2⟩
end

end Go.Proofs.Ytefekboacghnjaa

namespace Go.Proofs.Ytefekboacghnjaa
open Go.RowKit Go.Maps

section
variable {w0 w w' : World} {ks : List (Nat × Obj)} {p h : Nat} {X : FSt} {S : HS} {K : Int} {own : Nat → En} {here : Nat → Bool} {c g : Int} {t : Nat}
set_option maxRecDepth 100000 in
set_option maxHeartbeats 8000000 in
theorem work_2 (a : FQ w0 ks w p h X.S K X.own X.here c g t) (O : FOk c g X) (hK : K + 10000 ≤ 1000000000000000) (g0 : 0 ≤ g) (g1 : g ≤ 65535) (x : FW) (hx : x.num) (hk : x.kind = 2) :
    Calls Try.prog 34 #[.pointer (some ⟨p, 0, none⟩), fwV x] w fun r w' => r = .returned (.tuple #[]) ∧ Hid (FQ w0 ks w' p h (workF c t X x).S (K + 10000) (workF c t X x).own (workF c t X x).here c g t) := by
  have hw0 : workF0 c t X x = ⟨weighHS X.S (gOf x.n8) (grOf X.S (gOf x.n8)) (64 + x.wt % 4032), X.own, X.here⟩ := by
    unfold workF0
    rw [if_neg (by omega), if_neg (by omega), if_pos hk]
  have hO := O.work0 t x
  have e7 := and7 x.who hx.o1 hx.o2
  have hn8 := x.n8_lt
  have hxw := hx.w
  have e8 : x.who % 8 = ((x.n8 : Nat) : Int) := by unfold FW.n8; omega
  rw [e8] at e7
  obtain ⟨n, hn⟩ : ∃ n, n = x.n8 := ⟨_, rfl⟩
  rw [← hn] at e7 hn8 hw0
  have MW : Hid (∀ W, Below w.heap.size w W → W.cell? ⟨p, 0, none⟩ = some (.pointer (some ⟨h, 0, none⟩)) ∧ Calls Try.prog 48 #[.pointer (some ⟨h, 0, none⟩), .int .i64 ((gOf n : Nat) : Int), .int .u64 ((64 + x.wt % 4032 : Nat) : Int)] W fun r w' => (∃ c, r = .returned (.int .i64 c)) ∧ Hid (FQ w0 ks w' p h (workF0 c t X x).S (K + 10000) (workF0 c t X x).own (workF0 c t X x).here c g t)) := Lib.hid fun W hW => by
    have aW := a.below hW
    rw [hw0]
    exact ⟨aW.farm.h0, (fq_weigh aW O.good (gOf_ne n) (O.at_ (gOf_lt n)) (64 + x.wt % 4032) (by omega) (by omega)).mono fun r w' hp => ⟨hp.1, Lib.hid (hp.2.out.mono (by omega) (by omega))⟩⟩
  have MP : Hid (∀ W, FQ w0 ks W p h (workF0 c t X x).S (K + 10000) (workF0 c t X x).own (workF0 c t X x).here c g t → Calls Try.prog 50 #[.pointer (some ⟨h, 0, none⟩)] W fun r w' => (∃ m, r = .returned (.int .i64 m)) ∧ Hid (FQ w0 ks w' p h (workF c t X x).S (K + 10000) (workF c t X x).own (workF c t X x).here c g t)) := Lib.hid fun W hW => work_pick hW hO g0 g1
  obtain ⟨r5, hr5⟩ : ∃ r5, r5 = n % 5 := ⟨_, rfl⟩
  have f1 : ((n : Nat) : Int).tmod 5 = (r5 : Int) := by rw [Int.tmod_eq_emod_of_nonneg (Int.natCast_nonneg _)]; omega
  have f2 : IntKind.i64.wrap (1 + (r5 : Int)) = ((gOf n : Nat) : Int) := by rw [IntKind.wrap_i64]; unfold gOf; omega
  obtain ⟨gi, hgi⟩ : ∃ gi, gi = gOf n := ⟨_, rfl⟩
  rw [← hgi] at f2 MW
  obtain ⟨xk, xo, xw, xn, xi⟩ := x
  dsimp only at hk e7 MW hxw
  subst hk
  obtain ⟨W2, hW2⟩ : ∃ W2, W2 = w.alloc (.cells #[.int .i64 2, .int .i64 xo, .int .u32 (xw : Nat), .int .u32 (xn : Nat), .bool xi] 67) := ⟨_, rfl⟩
  have hb : Below w.heap.size w W2 := by rw [hW2]; exact (Below.refl _ _).alloc (Nat.le_refl _) _
  have hx2 : Blk W2 w.heap.size #[.int .i64 2, .int .i64 xo, .int .u32 (xw : Nat), .int .u32 (xn : Nat), .bool xi] 67 := by rw [hW2]; exact Blk.new _ _ _
  have HB := Lib.hid hb
  have HF := Lib.hid (And.intro f1 f2)
  clear a O hO hx hn e8 hw0 hb hr5 hgi f1 f2
  go_enter Try.func34, Try.ntmps34
  go_wp2_with fail
  rw [← hW2]
  have b2 : W2.cell? ⟨w.heap.size, 2, none⟩ = some (.int .u32 (xw : Nat)) := Blk.cell hx2 2
  obtain ⟨q0, MW2⟩ := MW.out W2 HB.out
  have MW2 : Hid (∀ W, Below W2.heap.size W2 W → Calls Try.prog 48 #[.pointer (some ⟨h, 0, none⟩), .int .i64 (gi : Int), .int .u64 ((64 + xw % 4032 : Nat) : Int)] W fun r w' => (∃ c, r = .returned (.int .i64 c)) ∧ Hid (FQ w0 ks w' p h (workF0 c t X ⟨2, xo, xw, xn, xi⟩).S (K + 10000) (workF0 c t X ⟨2, xo, xw, xn, xi⟩).own (workF0 c t X ⟨2, xo, xw, xn, xi⟩).here c g t)) := Lib.hid fun W hW => (MW.out W (HB.out.trans (hW.mono HB.out.size))).2
  have f1 := HF.out.1
  have f2 := HF.out.2
  clear hW2 hx2 MW
  go_region_with (first | (go_at_call 90; refine (heavy20_any xw hxw _).mono ?_; rintro r w' ⟨rfl, rfl⟩) | (go_at_call 48; refine (MW2.out _ (by first | exact (Below.refl _ _).drew | exact Below.refl _ _)).mono ?_; rintro r w7 ⟨⟨m, rfl⟩, HQ⟩))
  all_goals
    have q9 := HQ.out.farm.h0
    clear MW2 b2 q0 f1 f2
    go_wp2_with fail
    refine (MP.out _ HQ.out).mono ?_
    rintro r w2 ⟨⟨m, rfl⟩, HQ2⟩
    clear MP
    go_wp2_with fail
    go_end0
    exact ⟨rfl, HQ2⟩
end

end Go.Proofs.Ytefekboacghnjaa
