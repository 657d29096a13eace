/-
  nice.Table, doleref03.Table: what they hold.
-/
import Derived.RangeFuncBox
import Derived.Maps.AppendAt
import Derived.Test.YtnpjacfefocjnaaNice5
import Derived.Test.YtnpjacfefocjnaaShare4
namespace Go.Proofs.Ytnpjacfefocjnaa
open Go.RowKit Go.Shelf
attribute [local go_sem] Oper.semAt_some

/-- the weights alone -/
def wlist (l : List (Int × Nat)) : List Nat := l.map (·.2)
theorem wlist_snoc (l : List (Int × Nat)) (x : Int × Nat) : wlist (l ++ [x]) = wlist l ++ [x.2] := by simp [wlist]
theorem wlist_len (l : List (Int × Nat)) : (wlist l).length = l.length := by simp [wlist]
theorem wlist_upto (k : Nat) : (wlist (wupto k)).length = k := by rw [wlist_len, wupto_length]

set_option maxRecDepth 100000 in
set_option maxHeartbeats 2000000 in
theorem table_any (w : World) :
    Calls Try.prog 72 #[] w fun e w' => ∃ v, e = .returned v ∧ w'.ownsRow w.heap.size 22 1 v (wlist (wupto 40)).length ((wlist (wupto 40)).map wv) ∧ Below w.heap.size w w' := by
  refine (callsIn_wide (n := 6)).1 ?_
  have hro : Fence.wide.round = none := rfl
  have h1 : 1 ≤ 6 := by omega
  obtain ⟨i0, hi, hz0, hz1, hz2⟩ := info_parts infoW
  refine callsIn_of_wp_marks Try.func72 rfl trivial ?_ hro
  simp only [Try.ntmps72, List.size_toArray, List.length_nil, Nat.reduceSub, Array.replicate_succ, Array.replicate_zero, List.push_toArray, List.append_toArray, List.nil_append, List.cons_append]
  gi_wp2
  refine ⟨trivial, ?_⟩
  gi_at_call 96
  refine (callsIn_wide.2 (weights_in _)).mono ?_
  rintro e w' ⟨rfl, rfl⟩
  gi_wp2
  have bO := Boxed.new w 47 (.slice none 0 0)
  have hB0 : Below w.heap.size w (w.alloc (.cells #[.slice none 0 0] 47)) := (Below.refl _ w).alloc (Nat.le_refl _) _
  refine wpIn_rangeFunc_ownG hro h1 (gf := 113) (lb := #[]) rfl trivial (enters_of Try.func113 (by kernel_rfl) rfl)
    (weights_stops (6 - 1) (by omega) (Below w.heap.size) _) belowK_t (belowK_b (by simp)) (Below.refl _ _) (fun _ => rfl)
    (fun pre W => (∃ v, Boxed W w.heap.size 47 v ∧ W.ownsRow w.heap.size 22 1 v (wlist pre).length ((wlist pre).map wv) ∧ Hid True) ∧ Below w.heap.size w W)
    (fun _ _ _ => False)
    (OwnFrom.and (Own.from (holdsRow_own w.heap.size w.heap.size 47 22 1 (fun pre => (wlist pre).length) (fun pre => (wlist pre).map wv) (fun _ _ => Hid True)) _) (ownFrom_below (Nat.le_refl _) (by simp)))
    (fun _ _ _ _ _ hs _ _ => hs)
    ⟨⟨_, bO, World.ownsRow_nil _ _ _ _, trivial⟩, hB0⟩
    (fun x => { tmps := #[.slice none 0 0, .pointer (some ⟨w.heap.size, 0, none⟩), undef, .int .u64 (x.2 : Nat), .func (.func 113) #[] #[], .int .i64 x.1, .int .u64 (x.2 : Nat), undef, undef, undef, undef, undef], defers := [] }) ?assign ?body ?done ?stop
  case assign =>
    intro l x W K hK
    gi_wp2
    exact hK
  case body =>
    rintro l pre ⟨xi, xn⟩ W ⟨⟨v, hv, hrow, _⟩, hB⟩ hlt
    have hc := hv.cell
    have hpl : (wlist pre).length < 40 := by rw [wlist_len]; exact hlt
    gi_wp2_with (gi_at_builtin; refine wpListIn_append_own _ rfl _ _ 47 rfl w.heap.size 22 i0 (.int .u64 0) 1 8 Try.underlying47 hi hz0 hz1 hz2 rfl (by decide) _ _ _ rfl (hrow.alloc _) ⟨W.heap.size, 0, none⟩ 1 1 [.int .u64 (xn : Nat)] rfl rfl (cell_one_new _ _ _) (by simp [Value.oneCell']) (by unfold maxLen; omega) (by omega) (by have := hB.size; simp; omega) ?_; intro v' w1 hown' hgrow _; obtain ⟨g', cap', rfl⟩ := ownsRow_succ hown'; obtain ⟨hv1, hv2, hr2, hk2, hb2⟩ := hv.appended (by decide) hrow hB.size (Nat.le_refl _) hown' hgrow; have hc1 := hv1.cell; have hf1 := hv1.frozen)
    refine ⟨hk2.from _, hb2, ⟨_, hv2, ?_⟩, hB.trans hb2⟩
    rw [wlist_snoc]
    simpa [wv] using hr2
  case done =>
    rintro D ys W hD rfl ⟨⟨v, hv, hrow, _⟩, hB⟩ hK
    have hc := hv.cell
    gi_wp2
    refine ⟨by simp, .inl ⟨_, _, rfl, run_takeDeferred hK, ?_⟩⟩
    exact ⟨_, results_tmp rfl _ _ _, v, rfl, ownsRow_putObj hrow _ hK rfl, hB.trans (belowK_b (w := w) (Nat.le_refl _) W D _ _ (by simp at hD; omega) hK rfl rfl)⟩
  case stop =>
    rintro D c pre W _ _ h _
    exact h.elim

set_option maxRecDepth 100000 in
set_option maxHeartbeats 3200000 in
theorem refTable_any (w : World) :
    Calls Try.prog 73 #[] w fun e w' =>
      ∃ v, e = .returned v ∧ w'.ownsRow w.heap.size 22 1 v (wlist (wupto 40)).length ((wlist (wupto 40)).map wv) ∧ Below w.heap.size w w' := by
  obtain ⟨i0, hi, iz0, iz1, iz2⟩ := info_parts infoW
  have M1 := Lib.hid fun n h1 h2 W => refNweight_yes n h1 h2 W
  go_enter Try.func73, Try.ntmps73
  go_wp2_with fail
  go_loopw [1, 2, 3, 4] (fun v s2 _ _ wr => ∃ (k : Nat) (i : Int), k ≤ 40 ∧ Hid (i = (k : Int) - 20) ∧ s2 = .int .i64 i ∧ wr.ownsRow w.heap.size 22 1 v k ((wlist (wupto k)).map wv) ∧ Below w.heap.size w wr) (fun _ s2 _ _ _ => 40 - (intOf s2 + 20).toNat)
  case atStart => exact ⟨0, -20, by omega, by simp [Hid], rfl, World.ownsRow_nil _ _ _ _, Below.refl _ _⟩
  case round =>
    obtain ⟨k, i, hk, HI, rfl, hown, hB⟩ := hrel
    have hi' := HI.out
    have hzr := hB.size
    by_cases hlt : k < 40
    · have z1 : decide (i < 20) = true := decide_eq_true (by omega)
      have m1 := fun W => M1.out i (by omega) (by omega) W
      have hup := wupto_succ k
      rw [← hi'] at hup
      have hl : wlist (wupto (k + 1)) = wlist (wupto k) ++ [wgt i] := by rw [hup, wlist_snoc]
      generalize hx : wgt i = x at *
      have Q1 := Lib.hid m1
      have HL := Lib.hid hl
      have HI2 : Hid (i + 1 = ((k + 1 : Nat) : Int) - 20) := Lib.hid (by omega)
      have c1 : -20 ≤ i := by omega
      have c2 : i ≤ 19 := by omega
      clear m1 hl hup hx hi'
      go_wp2_with fail
      refine (Q1.out _).mono ?_
      rintro e w1 ⟨rfl, hb1⟩
      have hz1 := hb1.size
      have hB1 := hB.trans (hb1.mono hzr)
      have hown1 : w1.ownsRow w.heap.size 22 1 u1 k ((wlist (wupto k)).map wv) := hown.kept (grown_of_belowN hb1 none) (by rcases h : u1.ownBlock with _ | b <;> simp)
      go_wp2_with (at_builtin; refine wpList_append_own _ rfl _ _ 47 rfl w.heap.size 22 i0 (.int .u64 0) 1 8 Try.underlying47 hi iz0 iz1 iz2 rfl (by decide) _ _ _ rfl (hown1.alloc _) ⟨w1.heap.size, 0, none⟩ 1 1 [.int .u64 (x : Nat)] rfl rfl (cell_one_new _ _ _) (by simp [Value.oneCell']) (by unfold maxLen; omega) (by omega) (by simp; omega) ?_; intro v' w2 hown2 hgrow _; clear Q1 M1)
      have hB2 : Below w.heap.size w w2 := (hB1.alloc (by omega) _).grown hgrow (by simp; omega) (fun j hj => (hown1.lt j hj).1)
      go_roundw
      case rel => exact ⟨k + 1, i + 1, by omega, HI2, by go_num, by rw [HL.out, List.map_append]; exact hown2, hB2⟩
      case measure =>
        have := HI2.out
        simp [intOf]
        omega
    · obtain rfl : k = 40 := by omega
      obtain rfl : i = 20 := by omega
      clear hi' HI
      go_wp2_with fail
      go_ret
      exact ⟨_, rfl, by rw [wlist_upto]; exact hown, hB⟩

end Go.Proofs.Ytnpjacfefocjnaa
