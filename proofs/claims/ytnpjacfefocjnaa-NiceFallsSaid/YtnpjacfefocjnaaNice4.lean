/-
  nice.weights: the iterator's contract; nice.Nearest, nice.Table.
-/
import Derived.RangeFuncNested
import Derived.RangeFuncBound
import Derived.RangeFuncCalls
import Derived.RangeFuncLeaves
import Derived.Shelf.Abstract
import Derived.Shelf.RegionOpen
import Derived.WalkKit
import Derived.OwnWalkIn
import Derived.TacticsInMore
import Derived.LoopNIn
import Derived.LoopIn
import Derived.Test.YtnpjacfefocjnaaNice3
namespace Go.Proofs.Ytnpjacfefocjnaa
open Go.RowKit Go.Shelf
attribute [local go_sem] Oper.semAt_some

theorem grown_of_belowN {w w' : World} (h : Below w.heap.size w w') (row : Option Nat) : w.grownBy w' row := ⟨h.os, h.tape, h.output, h.size, fun i hi _ => h.block i hi⟩

abbrev nenc (p : Int × Nat) : Array Value := #[.int .i64 p.1, .int .u64 (p.2 : Nat)]
/-- the weights that have come when k rounds are over -/
def wupto (k : Nat) : List (Int × Nat) := (List.range k).map fun (j : Nat) => ((j : Int) - 20, wgt ((j : Int) - 20))
theorem wupto_succ (k : Nat) : wupto (k + 1) = wupto k ++ [((k : Int) - 20, wgt ((k : Int) - 20))] := by simp [wupto, List.range_succ]
theorem wupto_length (k : Nat) : (wupto k).length = k := by simp [wupto]

set_option maxRecDepth 100000 in
set_option maxHeartbeats 1000000 in
theorem weights_stops (n : Nat) (hn : 3 ≤ n) (Kp : World → World → Prop) (w : World) :
    SeqStopsK Fence.wide n Try.prog 113 #[] nenc Kp (fun xs => xs = wupto 40) (fun pre => ∃ k, k ≤ 40 ∧ pre = wupto k) 40 w := fun l J Jx W hW hJ hJx hY h0 => by
  refine callsIn_of_wp Try.func113 rfl trivial ?_ rfl
  simp only [Try.ntmps113, List.size_toArray, List.length_cons, List.length_nil, Nat.reduceAdd, Nat.reduceSub, Array.replicate_succ, Array.replicate_zero, List.push_toArray, List.append_toArray, List.nil_append, List.cons_append]
  gi_wp2
  gi_loopw [2, 3, 4] (fun s2 s3 s4 wr => ∃ (j : Nat) (i : Int), j ≤ 40 ∧ Hid (i = (j : Int) - 20) ∧ s2 = .int .i64 i ∧ J (wupto j) wr) (fun s2 _ _ _ => 40 - (intOf s2 + 20).toNat)
  case atStart => exact ⟨0, -20, by omega, by simp [Hid], rfl, h0⟩
  case round =>
    obtain ⟨j, i, hj, HI, rfl, hJj⟩ := hrel
    have hi := HI.out
    by_cases hlt : j < 40
    · have z1 : decide (i ≤ 19) = true := decide_eq_true (by omega)
      have hup := wupto_succ j
      rw [← hi] at hup
      have m1 := fun W => nweight_yes i (by omega) (by omega) W
      generalize hx : wgt i = x at *
      have M1 := Lib.hid m1
      clear m1
      have HI2 : Hid (i + 1 = ((j + 1 : Nat) : Int) - 20) := Lib.hid (by omega)
      have c1 : -20 ≤ i := by omega
      have c2 : i ≤ 19 := by omega
      have HU := Lib.hid hup
      clear hup hi hx
      gi_wp2
      refine ⟨trivial, fun _ => by omega, ?_⟩
      refine (callsIn_wide.2 (M1.out _)).mono ?_
      rintro e w1 ⟨rfl, hb1⟩
      have hJ1 : J (wupto j) w1 := hJ _ _ _ none hJj (grown_of_belowN hb1 none) (fun r e => by cases e)
      obtain ⟨fn, tmps, assign, body, hy, hR⟩ := hY (wupto j) (i, x) w1 hJ1 (by rw [wupto_length]; omega)
      dsimp only [nenc] at hy
      gi_wp2
      refine ⟨fun _ => by omega, ?_⟩
      refine hR.mono ?_
      rintro e w2 (⟨rfl, hJ2, hk2⟩ | ⟨rfl, hJ2⟩)
      · rw [← HU.out] at hJ2
        gi_wp2
        go_roundw
        case rel => exact ⟨j + 1, i + 1, by omega, HI2, by go_num, hJ2⟩
        case measure =>
          have := HI2.out
          simp [intOf]
          omega
      · rw [← HU.out] at hJ2
        gi_wp2
        refine bodyPost_ret (results_none rfl _ _ _) rfl ?_
        exact ⟨⟨_, rfl⟩, .inr ⟨_, ⟨j + 1, by omega, rfl⟩, hJ2⟩⟩
    · obtain rfl : j = 40 := by omega
      obtain rfl : i = 20 := by omega
      clear hi HI
      gi_wp2
      go_end0
      exact ⟨⟨_, rfl⟩, .inl ⟨_, rfl, hJj⟩⟩

theorem weights_in (w : World) : Calls Try.prog 96 #[] w fun e w' => e = .returned (.func (.func 113) #[] #[]) ∧ w = w' := by
  go_enter Try.func96, Try.ntmps96
  go_wp2_with fail
  go_ret
  exact ⟨rfl, rfl⟩

/-- the nice number that came last -/
def lastN (pre : List (Int × Nat)) : Int := (pre.getLast?.map (·.1)).getD (-20)
theorem lastN_snoc (pre : List (Int × Nat)) (x : Int × Nat) : lastN (pre ++ [x]) = x.1 := by simp [lastN]

theorem wgt_step : ∀ j, j < 39 → wgt ((j : Nat) - 19 : Int) < wgt ((j : Nat) - 20 : Int) := by decide
theorem wgt_le (a b : Nat) (hab : a ≤ b) (hb : b ≤ 39) : wgt ((b : Int) - 20) ≤ wgt ((a : Int) - 20) := by
  induction b with
  | zero => obtain rfl : a = 0 := by omega
            exact Nat.le_refl _
  | succ b ih =>
    by_cases h : a = b + 1
    · rw [h]; exact Nat.le_refl _
    · have h1 := ih (by omega) (by omega)
      have h2 := wgt_step b (by omega)
      rw [show (((b + 1 : Nat) : Int) - 20) = (b : Int) - 19 by omega]
      omega

/-- the search finds the last whose weight is no less -/
theorem down_at (v k : Nat) (hk : k ≤ 40) (hlo : ∀ j, j < k → v ≤ wgt ((j : Int) - 20)) (hhi : k < 40 → wgt ((k : Int) - 20) < v) : down v 39 = if k = 0 then -20 else (k : Int) - 21 := by
  have H : ∀ m, k ≤ m + 1 → m ≤ 39 → down v m = if k = 0 then -20 else (k : Int) - 21 := by
    intro m
    induction m with
    | zero =>
      intro h1 _
      simp only [down]
      split
      · rfl
      · obtain rfl : k = 1 := by omega
        rfl
    | succ m ih =>
      intro h1 h2
      simp only [down]
      by_cases hm : k = m + 2
      · subst hm
        have := hlo (m + 1) (by omega)
        rw [show (((m + 1 : Nat) : Int) - 20) = (m : Int) - 19 by omega] at this
        rw [if_pos this, if_neg (by omega)]
        omega
      · have h3 := hhi (by omega)
        have h4 := wgt_le k (m + 1) (by omega) (by omega)
        rw [show (((m + 1 : Nat) : Int) - 20) = (m : Int) - 19 by omega] at h4
        rw [if_neg (by omega)]
        exact ih (by omega) (by omega)
  exact H 39 (by omega) (by omega)

theorem lastN_wupto (k : Nat) : lastN (wupto k) = if k = 0 then -20 else (k : Int) - 21 := by
  cases k with
  | zero => rfl
  | succ k => rw [wupto_succ, lastN_snoc, if_neg (by omega)]; simp; omega

theorem all_wupto {v k : Nat} (h : ∀ p ∈ wupto k, v ≤ p.2) (j : Nat) (hj : j < k) : v ≤ wgt ((j : Int) - 20) :=
  h ((j : Int) - 20, wgt ((j : Int) - 20)) (List.mem_map.2 ⟨j, List.mem_range.2 hj, rfl⟩)

end Go.Proofs.Ytnpjacfefocjnaa
