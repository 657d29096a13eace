/-
  dolelaw08.bench.work: one that slept wakes.
-/
import Derived.Test.YtkemhcokkaanfaaBh
namespace Go.Proofs.Ytkemhcokkaanfaa
open Go.RowKit Go.Maps

set_option maxRecDepth 100000 in
set_option maxHeartbeats 64000000 in
theorem work_wake {w0 : Base} {w : World} {p q : Nat} {X : QS} {K : Int} {own : Nat → En} {c g : Int} {t : Nat} (hB : BQ w0 w p q X K own c g t) (hT : Terms c g t) (hN : NearB c g t ⟨X, own⟩) (hm : X.mn ≤ 100000000000) (hK : K + 2000 ≤ 1000000000000000) (x : WK) (hx : x.num) (weighs : Bool) (hk0 : x.kind = 0) (hget : X.get ((x.who % 8 : Nat) : Int) = none) :
    Calls Try.prog 72 #[.pointer (some ⟨p, 0, none⟩), workV x, .bool weighs] w fun r w' => r = .returned (.tuple #[.int .i64 (servedB g t ⟨X, own⟩ x weighs), .int .u64 (nsB t x (servedB g t ⟨X, own⟩ x weighs))]) ∧ Hid (BQ w0 w' p q (workB c g t ⟨X, own⟩ x weighs).X (K + 2000) (workB c g t ⟨X, own⟩ x weighs).own c g t) := by
  obtain ⟨xk, xw, xt, xn, xy⟩ := x
  obtain ⟨n1, n2, n3, n4, n5⟩ := hx
  dsimp only at n1 n2 n3 n4 n5 hk0 hget
  obtain ⟨W1, hW1⟩ : ∃ W1, W1 = w.alloc (.cells #[.int .i64 xk, .int .u8 xw, .int .u32 xt, .int .u32 xn, .bool xy] 120) := ⟨_, rfl⟩
  have hb1 : Below w.heap.size w W1 := by rw [hW1]; exact (Below.refl _ _).alloc (Nat.le_refl _) _
  have hbx : Blk W1 w.heap.size #[.int .i64 xk, .int .u8 xw, .int .u32 xt, .int .u32 xn, .bool xy] 120 := by rw [hW1]; exact Blk.new _ _ _
  have y0 : W1.cell? ⟨w.heap.size, 0, none⟩ = some (.int .i64 xk) := Blk.cell hbx 0
  have y1 : W1.cell? ⟨w.heap.size, 1, none⟩ = some (.int .u8 xw) := Blk.cell hbx 1
  have y2 : W1.cell? ⟨w.heap.size, 2, none⟩ = some (.int .u32 xt) := Blk.cell hbx 2
  have y3 : W1.cell? ⟨w.heap.size, 3, none⟩ = some (.int .u32 xn) := Blk.cell hbx 3
  have y4 : W1.cell? ⟨w.heap.size, 4, none⟩ = some (.bool xy) := Blk.cell hbx 4
  obtain ⟨id, hid⟩ : ∃ id, id = xw % 8 := ⟨_, rfl⟩
  have h8 : id < 8 := by rw [hid]; exact Nat.mod_lt _ (by omega)
  have e1 : (xw : Int) % 8 = (id : Int) := by rw [hid]; rfl
  have hB1 := hB.below hb1
  have HB1 := Lib.hid hB1
  have HW1 := Lib.hid hW1
  have q0 := hB1.bench.q0
  have cg := hB1.bench.g0
  have hpl := hB1.bench.lt
  have hbl := hbx.lt
  have HR : Hid (servedB g t ⟨X, own⟩ ⟨xk, xw, xt, xn, xy⟩ weighs = -1 ∧ workB c g t ⟨X, own⟩ ⟨xk, xw, xt, xn, xy⟩ weighs = ⟨pickQ (putQ X (woken (own id) X.mn c)) g, own⟩) := Lib.hid (by
    refine ⟨if_pos hk0, ?_⟩
    unfold workB
    rw [if_pos hk0]
    simp only
    rw [hget, hid])
  rw [← hid] at hget
  rw [HR.out.1, HR.out.2]
  have MH := Lib.hid fun W (hW : BQ w0 W p q X K own c g t) => here_any p q own c g t (id : Int) W hW.bench hW.new
  rw [hget] at MH
  have ho := hN.own id h8
  have hon := ho.num h8 hT hm
  have hmn : 0 ≤ X.mn := hN.q.mn0
  obtain ⟨t1, t2, t3, t4, t5, t6⟩ := (show Terms c g t from hT)
  have HWN : Hid ((woken (own id) X.mn c).num) := Lib.hid ⟨hon.i1, hon.i2, by show _ ≤ max (own id).v (X.mn - c); have := hon.v1; rw [Int.max_def]; split <;> omega, by show max (own id).v (X.mn - c) ≤ _; have := hon.v2; have := hmn; rw [Int.max_def]; split <;> omega, hon.w2, hon.r2⟩
  subst hk0
  clear hB hB1 hW1 hid hget
  go_enter Try.func72, Try.ntmps72
  go_wp2_with fail
  rw [← HW1.out]
  refine (MH.out _ HB1.out).mono ?_
  rintro r w2 ⟨rfl, hb2⟩
  have HB2 := Lib.hid (HB1.out.below hb2)
  obtain ⟨x0, x1, x2, x3⟩ := HB2.out.bench.own id h8
  have hp2 := HB2.out.bench.lt
  have j0 : (0 : Int) ≤ (id : Int) := Int.natCast_nonneg _
  have j1 : (id : Int) < 8 := by omega
  have j2 : decide (id < 8) = true := decide_eq_true h8
  clear y0 y1 y2 y3 y4 cg MH hb2 q0
  go_wp2_with fail
  refine wp_world (fun W => (W.cell? ⟨w2.heap.size, 0, none⟩ = some (.int .i64 (own id).id) ∧ W.cell? ⟨w2.heap.size, 1, none⟩ = some (.int .u64 (own id).wt) ∧ W.cell? ⟨w2.heap.size, 2, none⟩ = some (.int .i64 (own id).v) ∧ W.cell? ⟨w2.heap.size, 3, none⟩ = some (.int .u64 (own id).rem)) ∧ (W.cell? ⟨p, 0, none⟩ = some (.pointer (some ⟨q, 0, none⟩)) ∧ W.cell? ⟨p, 33, none⟩ = some (.int .i64 c)) ∧ Hid (Below w2.heap.size w2 W ∧ Blk W w2.heap.size (ecells (own id)) 52)) ?_ ?_
  · have hn := Blk.new w2 (ecells (own id)) 52
    have hb0 : Below w2.heap.size w2 (w2.alloc (.cells (ecells (own id)) 52)) := (Below.refl _ _).alloc (Nat.le_refl _) _
    have hb := HB2.out.below hb0
    exact ⟨⟨Blk.cell hn 0, Blk.cell hn 1, Blk.cell hn 2, Blk.cell hn 3⟩, ⟨hb.bench.q0, hb.bench.c0⟩, hb0, hn⟩
  rintro W ⟨⟨b0, b1, b2, b3⟩, ⟨q0, c0⟩, HB4⟩
  have bl4 := HB4.out.2.lt
  have hz4 := HB4.out.1.size
  have pl4 := (HB2.out.below HB4.out.1).bench.lt
  clear x0 x1 x2 x3 hp2
  obtain ⟨nv, hnv⟩ : ∃ nv, nv = max (own id).v (X.mn - c) := ⟨_, rfl⟩
  have MM := Lib.hid fun W' (hW : Below W.heap.size W W') => qn_min ((HB2.out.below HB4.out.1).below hW).new
  have MW := Lib.hid fun W' (hW : Below W.heap.size W W') => (wake_in (own id).v X.mn c (by omega) (by omega) t1 t2 W').mono (R' := fun e w' => e = .returned (.int .i64 nv) ∧ (w'.cell? ⟨w2.heap.size, 2, none⟩ = some (.int .i64 (own id).v) ∧ ∀ j, w'.frozen? ⟨w2.heap.size, j, none⟩ = false) ∧ Hid (Below w2.heap.size w2 w' ∧ Blk w' w2.heap.size (ecells (own id)) 52)) fun e w' hp => by
    have hB := hW.trans (hp.2.mono hW.size)
    have hbk := HB4.out.2.below hB HB4.out.2.lt
    exact ⟨by rw [hnv]; exact hp.1, ⟨Blk.cell hbk 2, Blk.frozen hbk⟩, HB4.out.1.trans (hB.mono hz4), hbk⟩
  have HNV := Lib.hid hnv
  clear hnv
  apply wp_region_to (fun W => (W.cell? ⟨w2.heap.size, 0, none⟩ = some (.int .i64 (own id).id) ∧ W.cell? ⟨w2.heap.size, 1, none⟩ = some (.int .u64 (own id).wt) ∧ W.cell? ⟨w2.heap.size, 2, none⟩ = some (.int .i64 nv) ∧ W.cell? ⟨w2.heap.size, 3, none⟩ = some (.int .u64 (own id).rem)) ∧ W.cell? ⟨p, 0, none⟩ = some (.pointer (some ⟨q, 0, none⟩)) ∧ Hid (Below w2.heap.size w2 W))
  case h =>
    go_region_with (first
      | (go_at_call 35; refine (MM.out _ (by first | exact (Below.refl _ _).drew | exact Below.refl _ _)).mono ?_; rintro r w' ⟨rfl, rfl⟩)
      | (go_at_call 73; refine (MW.out _ (by first | exact (Below.refl _ _).drew | exact Below.refl _ _)).mono ?_; rintro r w5 ⟨rfl, ⟨v2, vf⟩, HB5⟩))
    all_goals
      have hb := Blk.set HB5.out.2 2 (.int .i64 nv)
      have hbl := HB5.out.1.setCell (p := ⟨w2.heap.size, 2, none⟩) (Nat.le_refl _) (.int .i64 nv)
      exact ⟨rfl, ⟨Blk.cell hb 0, Blk.cell hb 1, Blk.cell hb 2, Blk.cell hb 3⟩, (HB2.out.below hbl).bench.q0, hbl⟩
  rintro W6 ⟨⟨d0, d1, d2, d3⟩, q6, HB6⟩
  clear b0 b1 b2 b3 q0 c0 bl4 pl4 HB4 MM MW
  have bl6 := HB6.out.size
  obtain ⟨zc, hzc⟩ : ∃ zc, zc = putC X (woken (own id) X.mn c) := ⟨_, rfl⟩
  have HZC := Lib.hid hzc
  clear hzc
  have MPT : Hid (∀ W', Below W6.heap.size W6 W' → Calls Try.prog 32 #[.pointer (some ⟨q, 0, none⟩), .agg #[.int .i64 (own id).id, .int .u64 (own id).wt, .int .i64 nv, .int .u64 (own id).rem]] W' fun r w' => r = .returned (.int .i64 zc) ∧ Hid (BQ w0 w' p q (putQ X (woken (own id) X.mn c)) (K + 1000) own c g t)) := Lib.hid fun W' hW => by
    have := bq_put ((HB2.out.below HB6.out).below hW) (by omega) (woken (own id) X.mn c) HWN.out
    rw [HNV.out]
    exact this.mono fun r w' hp => ⟨by rw [HZC.out]; exact hp.1, hp.2⟩
  go_wp2_with fail
  apply wp_region_to (fun W => (W.cell? ⟨p, 0, none⟩ = some (.pointer (some ⟨q, 0, none⟩)) ∧ W.cell? ⟨p, 34, none⟩ = some (.int .i64 g)) ∧ Hid (BQ w0 W p q (putQ X (woken (own id) X.mn c)) (K + 1000) own c g t))
  case h =>
    go_region_with (go_at_call 32; refine (MPT.out _ (by first | exact (Below.refl _ _).drew | exact Below.refl _ _)).mono ?_; rintro r w7 ⟨rfl, HB7⟩)
    all_goals exact ⟨rfl, ⟨HB7.out.bench.q0, HB7.out.bench.g0⟩, HB7⟩
  rintro W7 ⟨⟨q0, g0⟩, HB7⟩
  have MP := Lib.hid (pick_at HB7.out hT)
  clear d0 d1 d2 d3 q6 MPT
  go_wp2_with fail
  apply wp_region_to (fun W => Hid (BQ w0 W p q (pickQ (putQ X (woken (own id) X.mn c)) g) (K + 1000) own c g t))
  case h =>
    go_region_with (go_at_call 44; refine (MP.out _ (by first | exact (Below.refl _ _).drew | exact Below.refl _ _)).mono ?_; rintro r w9 ⟨rfl, HB9⟩)
    all_goals exact ⟨rfl, HB9⟩
  intro W9 HB9
  go_wp2_with fail
  go_ret2
  exact ⟨rfl, HB9.out.mono (by omega) (by omega)⟩

end Go.Proofs.Ytkemhcokkaanfaa
