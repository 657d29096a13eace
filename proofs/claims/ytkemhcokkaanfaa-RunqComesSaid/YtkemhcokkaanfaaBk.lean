/-
  dolelaw08.bench.work: one has another weight.
-/
import Derived.Test.YtkemhcokkaanfaaBh
namespace Go.Proofs.Ytkemhcokkaanfaa
open Go.RowKit Go.Maps

set_option maxRecDepth 100000 in
set_option maxHeartbeats 64000000 in
theorem work_weigh {w0 : Base} {w : World} {p q : Nat} {X : QS} {K : Int} {own : Nat → En} {c g : Int} {t : Nat} (hB : BQ w0 w p q X K own c g t) (hT : Terms c g t) (_hN : NearB c g t ⟨X, own⟩) (_hm : X.mn ≤ 100000000000) (hK : K + 2000 ≤ 1000000000000000) (x : WK) (hx : x.num) (weighs : Bool) (hk1 : x.kind = 1) (hw : weighs = true) :
    Calls Try.prog 72 #[.pointer (some ⟨p, 0, none⟩), workV x, .bool weighs] w fun r w' => r = .returned (.tuple #[.int .i64 (servedB g t ⟨X, own⟩ x weighs), .int .u64 (nsB t x (servedB g t ⟨X, own⟩ x weighs))]) ∧ Hid (BQ w0 w' p q (workB c g t ⟨X, own⟩ x weighs).X (K + 2000) (workB c g t ⟨X, own⟩ x weighs).own c g t) := by
  obtain ⟨xk, xw, xt, xn, xy⟩ := x
  obtain ⟨n1, n2, n3, n4, n5⟩ := hx
  dsimp only at n1 n2 n3 n4 n5 hk1
  obtain ⟨W1, hW1⟩ : ∃ W1, W1 = w.alloc (.cells #[.int .i64 xk, .int .u8 xw, .int .u32 xt, .int .u32 xn, .bool xy] 120) := ⟨_, rfl⟩
  have hb1 : Below w.heap.size w W1 := by rw [hW1]; exact (Below.refl _ _).alloc (Nat.le_refl _) _
  have hbx : Blk W1 w.heap.size #[.int .i64 xk, .int .u8 xw, .int .u32 xt, .int .u32 xn, .bool xy] 120 := by rw [hW1]; exact Blk.new _ _ _
  have y0 : W1.cell? ⟨w.heap.size, 0, none⟩ = some (.int .i64 xk) := Blk.cell hbx 0
  have y1 : W1.cell? ⟨w.heap.size, 1, none⟩ = some (.int .u8 xw) := Blk.cell hbx 1
  have y2 : W1.cell? ⟨w.heap.size, 2, none⟩ = some (.int .u32 xt) := Blk.cell hbx 2
  have y3 : W1.cell? ⟨w.heap.size, 3, none⟩ = some (.int .u32 xn) := Blk.cell hbx 3
  have y4 : W1.cell? ⟨w.heap.size, 4, none⟩ = some (.bool xy) := Blk.cell hbx 4
  obtain ⟨id, hid⟩ : ∃ id, id = xw % 8 := ⟨_, rfl⟩
  have h8 : id < 8 := by rw [hid]; exact Nat.mod_lt _ (by omega)
  have e1 : (xw : Int) % 8 = (id : Int) := by rw [hid]; rfl
  have hB1 := hB.below hb1
  have HB1 := Lib.hid hB1
  have HW1 := Lib.hid hW1
  have q0 := hB1.bench.q0
  have cg := hB1.bench.g0
  have hpl := hB1.bench.lt
  have hbl := hbx.lt
  have HR : Hid (servedB g t ⟨X, own⟩ ⟨xk, xw, xt, xn, xy⟩ weighs = -1 ∧ workB c g t ⟨X, own⟩ ⟨xk, xw, xt, xn, xy⟩ weighs = ⟨pickQ (weighQ X (id : Int) (heavy8 xt)) g, own⟩) := Lib.hid (by
    refine ⟨by unfold servedB; rw [if_neg (by show ¬ xk = 0; omega), if_pos ⟨hk1, hw⟩], ?_⟩
    unfold workB
    rw [if_neg (by show ¬ xk = 0; omega), if_pos ⟨hk1, hw⟩, hid])
  rw [HR.out.1, HR.out.2]
  have hv := heavyN_in xt
  have MHV := Lib.hid fun W => heavy_any xt n4 W
  have HHV : Hid (heavyN xt = heavy8 xt) := Lib.hid rfl
  obtain ⟨zc, hzc⟩ : ∃ zc, zc = weighC X (id : Nat) (heavyN xt) := ⟨_, rfl⟩
  have MWG : Hid (∀ W', Below W1.heap.size W1 W' → Calls Try.prog 63 #[.pointer (some ⟨q, 0, none⟩), .int .i64 (id : Nat), .int .u64 (heavyN xt : Nat)] W' fun r w' => r = .returned (.int .i64 zc) ∧ Hid (BQ w0 w' p q (weighQ X (id : Int) (heavy8 xt)) K own c g t)) := Lib.hid fun W' hW =>
    (bq_weigh (HB1.out.below hW) (id : Nat) (by omega) (by omega) (heavyN xt) (by omega)).mono fun r w' hp => ⟨by rw [hzc]; exact hp.1, hp.2⟩
  clear hzc
  generalize heavyN xt = hv8 at *
  subst hk1
  subst hw
  clear hB hB1 hW1 hid
  go_enter Try.func72, Try.ntmps72
  go_wp2_with fail
  rw [← HW1.out]
  apply wp_region_to (fun W => (W.cell? ⟨p, 0, none⟩ = some (.pointer (some ⟨q, 0, none⟩)) ∧ W.cell? ⟨p, 34, none⟩ = some (.int .i64 g)) ∧ Hid (BQ w0 W p q (weighQ X (id : Int) (heavy8 xt)) K own c g t))
  case h =>
    go_region_with (first
      | (go_at_call 43; refine (MHV.out _).mono ?_; rintro r w' ⟨rfl, rfl⟩)
      | (go_at_call 63; refine (MWG.out _ (by first | exact (Below.refl _ _).drew | exact Below.refl _ _)).mono ?_; rintro r w7 ⟨rfl, HB7⟩))
    all_goals exact ⟨rfl, ⟨HB7.out.bench.q0, HB7.out.bench.g0⟩, HB7⟩
  rintro W7 ⟨⟨q0, g0⟩, HB7⟩
  have MP := Lib.hid (pick_at HB7.out hT)
  clear y0 y1 y2 y3 y4 cg MWG MHV
  go_wp2_with fail
  apply wp_region_to (fun W => Hid (BQ w0 W p q (pickQ (weighQ X (id : Int) (heavy8 xt)) g) K own c g t))
  case h =>
    go_region_with (go_at_call 44; refine (MP.out _ (by first | exact (Below.refl _ _).drew | exact Below.refl _ _)).mono ?_; rintro r w9 ⟨rfl, HB9⟩)
    all_goals exact ⟨rfl, HB9⟩
  intro W9 HB9
  go_wp2_with fail
  go_ret2
  exact ⟨rfl, HB9.out.mono (by omega) (by omega)⟩

end Go.Proofs.Ytkemhcokkaanfaa
