/-
  dolelaw08.bench.work.
-/
import Derived.Test.YtkemhcokkaanfaaBg
import Derived.Test.YtkemhcokkaanfaaLw8b
namespace Go.Proofs.Ytkemhcokkaanfaa
open Go.RowKit Go.Maps

theorem OwnOk.num {c g : Int} {t : Nat} {mn : Int} {i : Nat} {e : En} (h : OwnOk c g t mn i e) (hi : i < 8) (hT : Terms c g t) (hm : mn ≤ 100000000000) : e.num := by
  obtain ⟨t1, t2, t3, t4, t5, t6⟩ := hT
  have h1 := h.id
  have h2 := h.wt
  have h3 := h.r
  have h4 := h.lo
  have h5 := h.hi
  exact ⟨by omega, by omega, by omega, by omega, by omega, by omega⟩
abbrev workV (x : WK) : Value := .agg #[.int .i64 x.kind, .int .u8 x.who, .int .u32 x.wt, .int .u32 x.ns, .bool x.yields]
structure WK.num (x : WK) : Prop where
  k1 : -9223372036854775808 ≤ x.kind
  k2 : x.kind ≤ 9223372036854775807
  who : x.who < 256
  wt : x.wt < 4294967296
  ns : x.ns < 4294967296
def nsB (t : Nat) (x : WK) (served : Int) : Nat := if served = -1 then 0 else x.ns % (t + 1)

/-- a region that ends in one frame, and in such a world: what stands behind is walked once -/
def AtEnd (a' : Act) (R : World → Prop) : Exit → Act → World → Prop
  | .normal, x, v => x = a' ∧ R v
  | _, _, _ => False
theorem wp_region_to {P : Program} {id : Nat} {ops : Array Oper} {b : Bool} {Q : Exit → Act → World → Prop} {a : Act} {w : World} (R : World → Prop) (a' : Act) (h : (Code.region id ops b).wp P (AtEnd a' R) a w) (k : ∀ v, R v → Q .normal a' v) : (Code.region id ops b).wp P Q a w :=
  Code.wp_mono (fun e x v h => by
    cases e with
    | normal =>
      obtain ⟨rfl, h3⟩ := h
      exact k v h3
    | _ => exact (h : False).elim) h
theorem pick_at {w0 : Base} {w : World} {p q : Nat} {X : QS} {K : Int} {own : Nat → En} {c g : Int} {t : Nat} (h : BQ w0 w p q X K own c g t) (hT : Terms c g t) : ∀ W, Below w.heap.size w W →
    Calls Try.prog 44 #[.pointer (some ⟨q, 0, none⟩), .int .i64 g] W fun e w' => e = .returned (.int .i64 (X.pickI g)) ∧ Hid (BQ w0 w' p q (pickQ X g) K own c g t) := fun W hW => bq_pick (h.below hW) g (by have := hT.g0; omega) (by have := hT.g1; omega)
theorem yield_at {w0 : Base} {w : World} {p q : Nat} {X : QS} {K : Int} {own : Nat → En} {c g : Int} {t : Nat} (h : BQ w0 w p q X K own c g t) (hT : Terms c g t) : ∀ W, Below w.heap.size w W →
    Calls Try.prog 45 #[.pointer (some ⟨q, 0, none⟩), .int .i64 g] W fun e w' => e = .returned (.int .i64 (X.yieldI g)) ∧ Hid (BQ w0 w' p q (yieldQ X g) K own c g t) := fun W hW => bq_yield (h.below hW) g (by have := hT.g0; omega) (by have := hT.g1; omega)

set_option maxRecDepth 100000 in
set_option maxHeartbeats 64000000 in
theorem work_drop {w0 : Base} {w : World} {p q : Nat} {X : QS} {K : Int} {own : Nat → En} {c g : Int} {t : Nat} (hB : BQ w0 w p q X K own c g t) (hT : Terms c g t) (_hN : NearB c g t ⟨X, own⟩) (_hm : X.mn ≤ 100000000000) (hK : K + 2000 ≤ 1000000000000000) (x : WK) (hx : x.num) (weighs : Bool) (hk0 : x.kind = 0) {e : En} (hget : X.get ((x.who % 8 : Nat) : Int) = some e) :
    Calls Try.prog 72 #[.pointer (some ⟨p, 0, none⟩), workV x, .bool weighs] w fun r w' => r = .returned (.tuple #[.int .i64 (servedB g t ⟨X, own⟩ x weighs), .int .u64 (nsB t x (servedB g t ⟨X, own⟩ x weighs))]) ∧ Hid (BQ w0 w' p q (workB c g t ⟨X, own⟩ x weighs).X (K + 2000) (workB c g t ⟨X, own⟩ x weighs).own c g t) := by
  obtain ⟨xk, xw, xt, xn, xy⟩ := x
  obtain ⟨n1, n2, n3, n4, n5⟩ := hx
  dsimp only at n1 n2 n3 n4 n5 hk0 hget
  obtain ⟨W1, hW1⟩ : ∃ W1, W1 = w.alloc (.cells #[.int .i64 xk, .int .u8 xw, .int .u32 xt, .int .u32 xn, .bool xy] 120) := ⟨_, rfl⟩
  have hb1 : Below w.heap.size w W1 := by rw [hW1]; exact (Below.refl _ _).alloc (Nat.le_refl _) _
  have hbx : Blk W1 w.heap.size #[.int .i64 xk, .int .u8 xw, .int .u32 xt, .int .u32 xn, .bool xy] 120 := by rw [hW1]; exact Blk.new _ _ _
  have y0 : W1.cell? ⟨w.heap.size, 0, none⟩ = some (.int .i64 xk) := Blk.cell hbx 0
  have y1 : W1.cell? ⟨w.heap.size, 1, none⟩ = some (.int .u8 xw) := Blk.cell hbx 1
  have y2 : W1.cell? ⟨w.heap.size, 2, none⟩ = some (.int .u32 xt) := Blk.cell hbx 2
  have y3 : W1.cell? ⟨w.heap.size, 3, none⟩ = some (.int .u32 xn) := Blk.cell hbx 3
  have y4 : W1.cell? ⟨w.heap.size, 4, none⟩ = some (.bool xy) := Blk.cell hbx 4
  obtain ⟨id, hid⟩ : ∃ id, id = xw % 8 := ⟨_, rfl⟩
  have h8 : id < 8 := by rw [hid]; exact Nat.mod_lt _ (by omega)
  have e1 : (xw : Int) % 8 = (id : Int) := by rw [hid]; rfl
  have hB1 := hB.below hb1
  have HB1 := Lib.hid hB1
  have HW1 := Lib.hid hW1
  have q0 := hB1.bench.q0
  have cg := hB1.bench.g0
  have hpl := hB1.bench.lt
  have hbl := hbx.lt
  have HR : Hid (servedB g t ⟨X, own⟩ ⟨xk, xw, xt, xn, xy⟩ weighs = -1 ∧ workB c g t ⟨X, own⟩ ⟨xk, xw, xt, xn, xy⟩ weighs = ⟨pickQ (dropQ X (id : Int)) g, updO own id e⟩) := Lib.hid (by
    refine ⟨if_pos hk0, ?_⟩
    unfold workB
    rw [if_pos hk0]
    simp only
    rw [hget, hid])
  rw [← hid] at hget
  rw [HR.out.1, HR.out.2]
  have MH := Lib.hid fun W (hW : BQ w0 W p q X K own c g t) => here_any p q own c g t (id : Int) W hW.bench hW.new
  rw [hget] at MH
  have hge := hget
  subst hk0
  clear hB hB1 hW1 hid hget
  go_enter Try.func72, Try.ntmps72
  go_wp2_with fail
  rw [← HW1.out]
  refine (MH.out _ HB1.out).mono ?_
  rintro r w2 ⟨rfl, hb2⟩
  have HB2 := Lib.hid (HB1.out.below hb2)
  have MD : Hid (Calls Try.prog 36 #[.pointer (some ⟨q, 0, none⟩), .int .i64 (id : Nat)] w2 fun r w' => r = .returned (.tuple #[.agg #[.int .i64 e.id, .int .u64 e.wt, .int .i64 e.v, .int .u64 e.rem], .int .i64 0]) ∧ Hid (BQ w0 w' p q (dropQ X (id : Nat)) (K + 1000) own c g t)) := Lib.hid (by
    have := bq_drop HB2.out (by omega) (id : Nat) (by omega) (by omega)
    rw [hge] at this
    exact this)
  have q0 := HB2.out.bench.q0
  clear y0 y1 y2 y3 y4 cg MH hb2
  go_wp2_with (go_at_call 36; refine MD.out.mono ?_; rintro r w3 ⟨rfl, HB3⟩)
  refine wp_world (fun W => (W.cell? ⟨w3.heap.size, 0, none⟩ = some (.int .i64 e.id) ∧ W.cell? ⟨w3.heap.size, 1, none⟩ = some (.int .u64 e.wt) ∧ W.cell? ⟨w3.heap.size, 2, none⟩ = some (.int .i64 e.v) ∧ W.cell? ⟨w3.heap.size, 3, none⟩ = some (.int .u64 e.rem)) ∧ Hid (BQ w0 W p q (dropQ X (id : Nat)) (K + 1000) own c g t)) ?_ ?_
  · have hn := Blk.new w3 #[.int .i64 e.id, .int .u64 e.wt, .int .i64 e.v, .int .u64 e.rem] 52
    exact ⟨⟨Blk.cell hn 0, Blk.cell hn 1, Blk.cell hn 2, Blk.cell hn 3⟩, HB3.out.below ((Below.refl _ _).alloc (Nat.le_refl _) _)⟩
  rintro W ⟨⟨b0, b1, b2, b3⟩, HB4⟩
  obtain ⟨x0, x1, x2, x3⟩ := HB4.out.bench.own id h8
  have pf := HB4.out.bench.frozen
  have j0 : (0 : Int) ≤ (id : Int) := Int.natCast_nonneg _
  have j1 : (id : Int) < 8 := by omega
  have j2 : decide (id < 8) = true := decide_eq_true h8
  clear q0 HB3 HB2 MD
  go_still_tail 6, (by kernel_rfl)
  change wpList _ _ _ _ _ (W.drew)
  go_wp2_with fail
  refine wp_world (fun W => (W.cell? ⟨p, 0, none⟩ = some (.pointer (some ⟨q, 0, none⟩)) ∧ W.cell? ⟨p, 34, none⟩ = some (.int .i64 g)) ∧ Hid (BQ w0 W p q (dropQ X (id : Nat)) (K + 1000) (updO own id e) c g t)) ?_ ?_
  · have hb := (HB4.out.below (Below.refl _ _).drew).set_own h8 e
    exact ⟨⟨hb.bench.q0, hb.bench.g0⟩, hb⟩
  rintro W5 ⟨⟨q0, g0⟩, HB5⟩
  have MP := Lib.hid (pick_at HB5.out hT)
  clear x0 x1 x2 x3 pf b0 b1 b2 b3 HB4
  go_region_with (go_at_call 44; refine (MP.out _ (by first | exact (Below.refl _ _).drew | exact Below.refl _ _)).mono ?_; rintro r w9 ⟨rfl, HB9⟩)
  all_goals
    go_wp2_with fail
    go_ret2
    exact ⟨rfl, HB9.out.mono (by omega) (by omega)⟩

end Go.Proofs.Ytkemhcokkaanfaa
