/-
  nice.Nearest: what it computes.
-/
import Derived.RangeFuncBox
import Derived.Maps.AppendAt
import Derived.Test.YtnpjacfefocjnaaNice4
namespace Go.Proofs.Ytnpjacfefocjnaa
open Go.RowKit Go.Shelf
attribute [local go_sem] Oper.semAt_some

set_option maxRecDepth 100000 in
set_option maxHeartbeats 2000000 in
theorem nearest_any (v : Nat) (w : World) :
    Calls Try.prog 44 #[.int .u64 v] w fun e w' => e = .returned (.int .i64 (down v 39)) ∧ Below w.heap.size w w' := by
  refine (callsIn_wide (n := 6)).1 ?_
  have hro : Fence.wide.round = none := rfl
  have h1 : 1 ≤ 6 := by omega
  refine callsIn_of_wp_marks Try.func44 rfl trivial ?_ hro
  simp only [Try.ntmps44, List.size_toArray, List.length_cons, List.length_nil, Nat.reduceAdd, Nat.reduceSub, Array.replicate_succ, Array.replicate_zero, List.push_toArray, List.append_toArray, List.nil_append, List.cons_append]
  gi_wp2
  refine ⟨trivial, ?_⟩
  gi_at_call 96
  refine (callsIn_wide.2 (weights_in _)).mono ?_
  rintro e w' ⟨rfl, rfl⟩
  gi_wp2
  have b0 := (Boxed.new w 22 (.int .u64 v)).alloc (.cells #[.int .i64 (-20)] 3)
  have b1 := Boxed.new (w.alloc (.cells #[.int .u64 v] 22)) 3 (.int .i64 (-20))
  simp only [World.size_alloc] at b1
  have hB0 : Below w.heap.size w ((w.alloc (.cells #[.int .u64 v] 22)).alloc (.cells #[.int .i64 (-20)] 3)) := ((Below.refl _ w).alloc (Nat.le_refl _) _).alloc (by simp) _
  refine wpIn_rangeFunc_ownF hro h1 (gf := 113) (lb := #[]) rfl trivial (enters_of Try.func113 (by kernel_rfl) rfl)
    (weights_stops (6 - 1) (by omega) (Below w.heap.size) _) belowK_t (belowK_b (by simp; omega)) (Below.refl _ _) (fun _ => rfl)
    (fun pre W => (Hid (∀ p ∈ pre, v ≤ p.2) ∧ W.cell? ⟨w.heap.size, 0, none⟩ = some (.int .u64 v) ∧ W.cell? ⟨w.heap.size + 1, 0, none⟩ = some (.int .i64 (lastN pre)) ∧ W.frozen? ⟨w.heap.size + 1, 0, none⟩ = false) ∧ Below w.heap.size w W)
    (fun c pre W => (c = .exit 0 ∧ ∃ pre' x, pre = pre' ++ [x] ∧ Hid (∀ p ∈ pre', v ≤ p.2) ∧ x.2 < v ∧ W.cell? ⟨w.heap.size + 1, 0, none⟩ = some (.int .i64 (lastN pre'))) ∧ Below w.heap.size w W)
    (OwnFrom.and (Own.from (fun s A B row hs hg hr => ⟨hs.1, cell_kept hs.2.1 hg hr, cell_kept hs.2.2.1 hg hr, (frozen_kept hs.2.2.1 hg hr).trans hs.2.2.2⟩) _) (ownFrom_below (Nat.le_refl _) (by simp; omega)))
    (fun c => OwnFrom.and (Own.from (fun s A B row hs hg hr => ⟨hs.1, by obtain ⟨p, x, h1, h2, h3, h4⟩ := hs.2; exact ⟨p, x, h1, h2, h3, cell_kept h4 hg hr⟩⟩) _) (ownFrom_below (Nat.le_refl _) (by simp; omega)))
    ⟨⟨by simp [Hid], b0.cell, b1.cell, b1.frozen⟩, hB0⟩
    (fun x => { tmps := #[.int .u64 v, .pointer (some ⟨w.heap.size, 0, none⟩), .int .i64 0, .pointer (some ⟨w.heap.size + 1, 0, none⟩), .int .i64 x.1, .int .u64 (x.2 : Nat), .func (.func 113) #[] #[], .int .i64 x.1, .int .u64 (x.2 : Nat), undef, undef, undef, undef, undef], defers := [] }) ?assign ?body ?done ?stop
  case assign =>
    intro l x W K hK
    gi_wp2
    exact hK
  case body =>
    rintro l pre ⟨xi, xn⟩ W ⟨⟨hp, hcw, hcr, hfr⟩, hB⟩ _
    by_cases hx : xn < v
    · have z1 : decide (xn < v) = true := decide_eq_true hx
      have z2 : decide ((xn : Int) < (v : Int)) = true := decide_eq_true (by omega)
      gi_wp2
      exact ⟨KeepsOthers.refl _, ⟨rfl, pre, (xi, xn), rfl, hp, hx, hcr⟩, hB⟩
    · have z1 : decide (xn < v) = false := decide_eq_false hx
      have z2 : decide ((xn : Int) < (v : Int)) = false := decide_eq_false (by omega)
      have hcw' := (World.cell?_setCell_other W ⟨w.heap.size + 1, 0, none⟩ ⟨w.heap.size, 0, none⟩ (.int .i64 xi) (by simp)).trans hcw
      gi_wp2
      refine ⟨KeepsOthers.setCell _ _ _, (Below.refl w.heap.size W).setCell (p := ⟨w.heap.size + 1, 0, none⟩) (by simp) _, ⟨?_, hcw', ?_, ?_⟩, hB.setCell (p := ⟨w.heap.size + 1, 0, none⟩) (by simp) _⟩
      · exact fun q hq => (List.mem_append.1 hq).elim (hp.out q) (fun e => by simp at e; subst e; simp; omega)
      · rw [lastN_snoc]; exact World.cell?_setCell_same' _ _ _ (by rw [hcr]; rfl)
      · rw [World.frozen?_setCell]; exact hfr
  case done =>
    rintro D ys W hD rfl ⟨⟨hne, _, hcr, hfr⟩, hB⟩ hK
    have hd := down_at v 40 (by omega) (all_wupto hne.out) (by omega)
    rw [lastN_wupto, if_neg (by omega)] at hcr
    rw [if_neg (by omega)] at hd
    have HD := Lib.hid hd
    clear hd
    gi_wp2
    refine ⟨by simp, .inl ⟨_, _, rfl, run_takeDeferred hK, ?_⟩⟩
    exact ⟨_, results_tmp rfl _ _ _, by rw [HD.out]; rfl, hB.trans (belowK_b (w := w) (Nat.le_refl _) W D _ _ (by simp at hD; omega) hK rfl rfl)⟩
  case stop =>
    rintro D c pre W hD ⟨k, hk, rfl⟩ ⟨⟨rfl, pre', x, he, hp, hx, hcr⟩, hB⟩ hK
    obtain ⟨j, rfl⟩ : ∃ j, k = j + 1 := by
      cases k with
      | zero => simp [wupto] at he
      | succ j => exact ⟨j, rfl⟩
    rw [wupto_succ] at he
    obtain ⟨rfl, hxe⟩ := List.append_inj' he rfl
    obtain rfl : ((j : Int) - 20, wgt ((j : Int) - 20)) = x := by simpa using hxe
    have hd := down_at v j (by omega) (all_wupto hp.out) (fun _ => hx)
    rw [lastN_wupto, ← hd] at hcr
    obtain ⟨R, hR⟩ : ∃ R, R = down v 39 := ⟨_, rfl⟩
    rw [← hR] at hcr
    have HR := Lib.hid hR
    clear hd hp hx he hxe hR
    gi_wp2
    refine ⟨by simp, .inl ⟨_, _, rfl, run_takeDeferred hK, ?_⟩⟩
    exact ⟨_, results_tmp rfl _ _ _, by rw [← HR.out]; rfl, hB.trans (belowK_b (w := w) (Nat.le_refl _) W D _ _ (by simp at hD; omega) hK rfl rfl)⟩

end Go.Proofs.Ytnpjacfefocjnaa
