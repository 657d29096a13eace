/-
  The farm of chapter 20: wake.
  The farm of chapter 20: wake, where a task sleeps.
-/
import Derived.Test.YtefekboacghnjaaMo
import Derived.Deep.RegionWith

namespace Go.Proofs.Ytefekboacghnjaa
open Go.RowKit Go.Maps

section
variable {w0 w : World} {ks : List (Nat × Obj)} {p h : Nat} {X : FSt} {K : Int} {c g : Int} {t : Nat}
set_option maxRecDepth 100000 in
set_option maxHeartbeats 8000000 in
theorem wake_drop (a : FQ w0 ks w p h X.S K X.own X.here c g t) (O : FOk c g X) (hK : K + 10000 ≤ 1000000000000000) (n : Nat) (hn : n < 8) (hh : X.here n = true) :
    Calls Try.prog 89 #[.pointer (some ⟨p, 0, none⟩), .int .i64 (n : Int)] w fun r w' => r = .returned (.tuple #[]) ∧ Hid (FQ w0 ks w' p h (wakeF c X n).S (K + 10000) (wakeF c X n).own (wakeF c X n).here c g t) := by
  have hlt := home_lt n
  have hgr := O.at_ hlt
  obtain ⟨e, he, hid⟩ := (O.here n hn _ hgr).1 hh
  have hget : (grOf X.S (homeN n)).q.get (2 * (n : Int)) = some e := by
    rw [← hid]
    exact (O.good.inv.qok _ _ hgr).get he
  have hwk : wakeF c X n = ⟨dropHS X.S (homeN n) (grOf X.S (homeN n)) (2 * (n : Int)), updO2 X.own n { e with id := (n : Int) }, updB X.here n false⟩ := by
    unfold wakeF
    rw [if_pos hh, hget]
  have MH := Lib.hid fun W => home_any n hn W
  have MD : Hid (∀ W, Below w.heap.size w W → (W.cell? ⟨p, 0, none⟩ = some (.pointer (some ⟨h, 0, none⟩)) ∧ W.cell? ⟨p, 33 + n, none⟩ = some (.bool true)) ∧ Calls Try.prog 32 #[.pointer (some ⟨h, 0, none⟩), .int .i64 ((homeN n : Nat) : Int), .int .i64 (n : Int)] W fun r w' => r = .returned (.tuple #[.agg #[.int .i64 (n : Int), .int .u64 e.wt, .int .i64 e.v, .int .u64 e.rem], .int .i64 0]) ∧ Hid (FQ w0 ks w' p h (wakeF c X n).S (K + 10000) X.own X.here c g t)) := Lib.hid fun W hW => by
    have aW := a.below hW
    have h1 := aW.farm.here n hn
    rw [hh] at h1
    have := fq_drop aW O.good hK hgr (n : Int) (by omega) (by omega) e hget
    rw [hwk]
    exact ⟨⟨aW.farm.h0, h1⟩, this⟩
  obtain ⟨hm, hhm⟩ : ∃ hm, hm = homeN n := ⟨_, rfl⟩
  rw [← hhm] at MH MD
  have HWK := Lib.hid hwk
  have j0 : (0 : Int) ≤ (n : Int) := Int.natCast_nonneg _
  have j1 : (n : Int) < 8 := by omega
  have j2 : decide (n < 8) = true := decide_eq_true hn
  clear a O hgr he hid hget hwk hhm hlt hh
  go_enter Try.func89, Try.ntmps89
  go_wp2_with fail
  refine (MH.out _).mono ?_
  rintro r w1 ⟨rfl, hb1⟩
  obtain ⟨⟨q0, q1⟩, MD1⟩ := MD.out _ hb1
  have MD1 := Lib.hid MD1
  clear hb1 MH MD
  go_wp2_with fail
  refine MD1.out.mono ?_
  rintro r w5 ⟨rfl, HQ5⟩
  clear q0 q1 MD1
  go_wp2_with fail
  obtain ⟨W6, hW6⟩ : ∃ W6, W6 = w5.alloc (.cells #[.int .i64 (n : Int), .int .u64 e.wt, .int .i64 e.v, .int .u64 e.rem] 32) := ⟨_, rfl⟩
  have hb6 : Below w5.heap.size w5 W6 := by rw [hW6]; exact (Below.refl _ _).alloc (Nat.le_refl _) _
  have hx6 : Blk W6 w5.heap.size #[.int .i64 (n : Int), .int .u64 e.wt, .int .i64 e.v, .int .u64 e.rem] 32 := by rw [hW6]; exact Blk.new _ _ _
  rw [← hW6]
  have HQ6 := Lib.hid (HQ5.out.below hb6)
  have b0 : W6.cell? ⟨w5.heap.size, 0, none⟩ = some (.int .i64 (n : Int)) := Blk.cell hx6 0
  have b1 : W6.cell? ⟨w5.heap.size, 1, none⟩ = some (.int .u64 e.wt) := Blk.cell hx6 1
  have b2 : W6.cell? ⟨w5.heap.size, 2, none⟩ = some (.int .i64 e.v) := Blk.cell hx6 2
  have b3 : W6.cell? ⟨w5.heap.size, 3, none⟩ = some (.int .u64 e.rem) := Blk.cell hx6 3
  obtain ⟨x0, x1, x2, x3⟩ := HQ6.out.farm.own n hn
  have pf := HQ6.out.farm.frozen
  have h7 := HQ6.out.farm.here n hn
  clear hW6 hb6 hx6 HQ5
  go_still_tail 6, (by kernel_rfl)
  change wpList _ _ _ _ _ (W6.drew)
  go_wp2_with fail
  refine bodyPost_ret (results_none rfl _ _ _) rfl ⟨rfl, ?_⟩
  have hq := ((HQ6.out.below ((Below.refl _ _).drew)).set_own hn { e with id := (n : Int) }).set_here hn false
  have e2 : (wakeF c X n).own = updO2 X.own n { e with id := (n : Int) } := by rw [HWK.out]
  have e3 : (wakeF c X n).here = updB X.here n false := by rw [HWK.out]
  rw [e2, e3]
  exact hq
end

end Go.Proofs.Ytefekboacghnjaa

namespace Go.Proofs.Ytefekboacghnjaa
open Go.RowKit Go.Maps

section
variable {w0 w : World} {ks : List (Nat × Obj)} {p h : Nat} {X : FSt} {K : Int} {c g : Int} {t : Nat}
set_option maxRecDepth 100000 in
set_option maxHeartbeats 8000000 in
theorem wake_put (a : FQ w0 ks w p h X.S K X.own X.here c g t) (O : FOk c g X) (hK : K + 10000 ≤ 1000000000000000) (n : Nat) (hn : n < 8) (hh : X.here n = false) :
    Calls Try.prog 89 #[.pointer (some ⟨p, 0, none⟩), .int .i64 (n : Int)] w fun r w' => r = .returned (.tuple #[]) ∧ Hid (FQ w0 ks w' p h (wakeF c X n).S (K + 10000) (wakeF c X n).own (wakeF c X n).here c g t) := by
  have hlt := home_lt n
  have hgr := O.at_ hlt
  have hwk : wakeF c X n = ⟨putHS X.S (homeN n) (grOf X.S (homeN n)) (dblE (awakened (X.own n) (grOf X.S (homeN n)).q.mn c)), X.own, updB X.here n (putC (grOf X.S (homeN n)).q (dblE (awakened (X.own n) (grOf X.S (homeN n)).q.mn c)) == 0)⟩ := by
    unfold wakeF
    rw [if_neg (by rw [hh]; decide)]
  have MH := Lib.hid fun W => home_any n hn W
  have hT := O.own n hn
  have hnum := hT.num hn
  obtain ⟨mn, hmn⟩ : ∃ mn, mn = (grOf X.S (homeN n)).q.mn := ⟨_, rfl⟩
  obtain ⟨lw, hlw⟩ : ∃ lw, lw = lowZ mn c := ⟨_, rfl⟩
  have hlb := lowZ_i64 mn c
  rw [← hlw] at hlb
  obtain ⟨nv, hnv⟩ : ∃ nv, nv = max (X.own n).v lw := ⟨_, rfl⟩
  obtain ⟨pc, hpc⟩ : ∃ pc, pc = putC (grOf X.S (homeN n)).q (dblE (awakened (X.own n) mn c)) := ⟨_, rfl⟩
  have hv1 := hT.v1
  have hv2 := hT.v2
  have hoid := hT.id
  have HA := Lib.hid a
  have MM : Hid (∀ W, Below w.heap.size w W → ((W.cell? ⟨p, 0, none⟩ = some (.pointer (some ⟨h, 0, none⟩)) ∧ W.cell? ⟨p, 33 + n, none⟩ = some (.bool false) ∧ W.cell? ⟨p, 41, none⟩ = some (.int .i64 c)) ∧ EntAt W p (1 + n * 4) (X.own n) ∧ (∀ j, W.frozen? ⟨p, j, none⟩ = false)) ∧ Calls Try.prog 42 #[.pointer (some ⟨h, 0, none⟩), .int .i64 ((homeN n : Nat) : Int)] W fun r w' => r = .returned (.int .i64 mn) ∧ W = w') := Lib.hid fun W hW => by
    have aW := a.below hW
    have h1 := aW.farm.here n hn
    rw [hh] at h1
    refine ⟨⟨⟨aW.farm.h0, h1, aW.farm.c0⟩, aW.farm.own n hn, aW.farm.frozen⟩, ?_⟩
    rw [hmn]
    exact fq_min aW hgr
  have MP : Hid (∀ W, Below w.heap.size w W → Calls Try.prog 30 #[.pointer (some ⟨h, 0, none⟩), .int .i64 ((homeN n : Nat) : Int), .agg #[.int .i64 (X.own n).id, .int .u64 (X.own n).wt, .int .i64 nv, .int .u64 (X.own n).rem]] W fun r w' => r = .returned (.int .i64 pc) ∧ (w'.cell? ⟨p, 33 + n, none⟩ = some (.bool false) ∧ ∀ j, w'.frozen? ⟨p, j, none⟩ = false) ∧ Hid (FQ w0 ks w' p h (wakeF c X n).S (K + 10000) X.own X.here c g t)) := Lib.hid fun W hW => by
    have aW := a.below hW
    have := fq_put aW O.good hK hgr (awakened (X.own n) (grOf X.S (homeN n)).q.mn c) ⟨hnum.i1, hnum.i2, by show _ ≤ max (X.own n).v (lowZ _ c); rw [← hmn, ← hlw]; omega, by show max (X.own n).v (lowZ _ c) ≤ _; rw [← hmn, ← hlw]; omega, hnum.w2, hnum.r2⟩ (by show 0 ≤ (X.own n).id; omega) (by show (X.own n).id < 64; omega)
    rw [← hmn] at this
    rw [hpc, hnv, hlw]
    refine this.mono fun r w' hp => ⟨hp.1, ?_, ?_⟩
    · have h1 := hp.2.out.farm.here n hn
      rw [hh] at h1
      exact ⟨h1, hp.2.out.farm.frozen⟩
    · have h2 := hp.2.out
      rw [hwk, ← hmn]
      exact h2
  have e1 : IntKind.i64.wrap (mn - c) = lw := by rw [hlw]; rfl
  obtain ⟨hm, hhm⟩ : ∃ hm, hm = homeN n := ⟨_, rfl⟩
  have HWK := Lib.hid (show (wakeF c X n).own = X.own ∧ (wakeF c X n).here = updB X.here n (pc == 0) by rw [hwk, hpc, hmn]; exact ⟨rfl, rfl⟩)
  rw [← hhm] at MH MM MP
  have j0 : (0 : Int) ≤ (n : Int) := Int.natCast_nonneg _
  have j1 : (n : Int) < 8 := by omega
  have j2 : decide (n < 8) = true := decide_eq_true hn
  obtain ⟨oe, hoe⟩ : ∃ oe, oe = X.own n := ⟨_, rfl⟩
  rw [← hoe] at MM MP hnv hv1 hv2
  obtain ⟨oi, ow, ov, om⟩ := oe
  dsimp only at MM MP hnv hv1 hv2
  have hnv2 : max ov lw = nv := hnv.symm
  have HE := Lib.hid e1
  clear a O hgr hwk hhm hlt hh hT hnum hmn hlw hpc hoid hoe hnv
  go_enter Try.func89, Try.ntmps89
  go_wp2_with fail
  refine (MH.out _).mono ?_
  rintro r w1 ⟨rfl, hb1⟩
  obtain ⟨⟨⟨q0, q1, q2⟩, ⟨x0, x1, x2, x3⟩, pf⟩, MM1⟩ := MM.out _ hb1
  have HB1 := Lib.hid hb1
  clear hb1 MH MM1
  go_wp2_with fail
  obtain ⟨W2, hW2⟩ : ∃ W2, W2 = w1.alloc (.cells #[.int .i64 oi, .int .u64 (ow : Nat), .int .i64 ov, .int .u64 (om : Nat)] 32) := ⟨_, rfl⟩
  have hb2 : Below w1.heap.size w1 W2 := by rw [hW2]; exact (Below.refl _ _).alloc (Nat.le_refl _) _
  have hx2 : Blk W2 w1.heap.size #[.int .i64 oi, .int .u64 (ow : Nat), .int .i64 ov, .int .u64 (om : Nat)] 32 := by rw [hW2]; exact Blk.new _ _ _
  rw [← hW2]
  have hB2 := HB1.out.trans (hb2.mono HB1.out.size)
  obtain ⟨⟨⟨p0, p1, p2⟩, _, _⟩, MM2⟩ := MM.out _ hB2.drew
  have MM2 := Lib.hid MM2
  have HX2 := Lib.hid (And.intro hB2 (And.intro hb2 hx2))
  have p0' : W2.cell? ⟨p, 0, none⟩ = some (.pointer (some ⟨h, 0, none⟩)) := p0
  have p2' : W2.cell? ⟨p, 41, none⟩ = some (.int .i64 c) := p2
  clear hW2 hb2 hx2 hB2 q0 q1 q2 x0 x1 x2 x3 pf p0 p1 p2
  apply wp_region_to (fun W => W = W2.drew)
  case h =>
    go_region_with (go_at_call 42; refine MM2.out.mono ?_; rintro r w' ⟨rfl, rfl⟩)
    all_goals exact ⟨rfl, rfl⟩
  rintro W3 rfl
  clear MM MM2 p0' p2' e1
  have hx3 : Blk W2.drew w1.heap.size #[.int .i64 oi, .int .u64 (ow : Nat), .int .i64 ov, .int .u64 (om : Nat)] 32 := HX2.out.2.2.drew
  have hB3 := HX2.out.1.drew
  generalize W2.drew = W3 at *
  have b2 : W3.cell? ⟨w1.heap.size, 2, none⟩ = some (.int .i64 ov) := Blk.cell hx3 2
  have bf := Blk.frozen hx3
  have HX3 := Lib.hid (And.intro hB3 hx3)
  clear hx3 hB3
  go_wp2_with fail
  obtain ⟨W4, hW4⟩ : ∃ W4, W4 = W3.setCell ⟨w1.heap.size, 2, none⟩ (.int .i64 nv) := ⟨_, rfl⟩
  rw [← hW4]
  have hz1 : w.heap.size ≤ w1.heap.size := HB1.out.size
  have hB4 : Below w.heap.size w W4 := by rw [hW4]; exact HX3.out.1.setCell hz1 _
  have hx4 : Blk W4 w1.heap.size #[.int .i64 oi, .int .u64 (ow : Nat), .int .i64 nv, .int .u64 (om : Nat)] 32 := by rw [hW4]; exact Blk.set HX3.out.2 2 _
  have d0 : W4.cell? ⟨w1.heap.size, 0, none⟩ = some (.int .i64 oi) := Blk.cell hx4 0
  have d1 : W4.cell? ⟨w1.heap.size, 1, none⟩ = some (.int .u64 (ow : Nat)) := Blk.cell hx4 1
  have d2 : W4.cell? ⟨w1.heap.size, 2, none⟩ = some (.int .i64 nv) := Blk.cell hx4 2
  have d3 : W4.cell? ⟨w1.heap.size, 3, none⟩ = some (.int .u64 (om : Nat)) := Blk.cell hx4 3
  have q0 := (HA.out.below hB4).farm.h0
  have MP4 : Hid (∀ W, Below W4.heap.size W4 W → Calls Try.prog 30 #[.pointer (some ⟨h, 0, none⟩), .int .i64 (hm : Int), .agg #[.int .i64 oi, .int .u64 (ow : Nat), .int .i64 nv, .int .u64 (om : Nat)]] W fun r w' => r = .returned (.int .i64 pc) ∧ (w'.cell? ⟨p, 33 + n, none⟩ = some (.bool false) ∧ ∀ j, w'.frozen? ⟨p, j, none⟩ = false) ∧ Hid (FQ w0 ks w' p h (wakeF c X n).S (K + 10000) X.own X.here c g t)) := Lib.hid fun W hW => MP.out W (hB4.trans (hW.mono hB4.size))
  clear hW4 hB4 hx4 b2 bf MM2 MP hnv2
  apply wp_region_to (fun W => Hid (FQ w0 ks W p h (wakeF c X n).S (K + 10000) (wakeF c X n).own (wakeF c X n).here c g t))
  case h =>
    go_region_with (go_at_call 30; refine (MP4.out _ (by first | exact (Below.refl _ _).drew | exact Below.refl _ _)).mono ?_; rintro r w7 ⟨rfl, ⟨y0, yf⟩, HQ⟩)
    all_goals
      refine ⟨rfl, ?_⟩
      have hq := HQ.out.set_here hn (pc == 0)
      rw [HWK.out.1, HWK.out.2]
      exact hq
  intro W9 HQ9
  clear MP4 d0 d1 d2 d3 q0
  go_wp2_with fail
  go_end0
  exact ⟨rfl, HQ9⟩
end

end Go.Proofs.Ytefekboacghnjaa
