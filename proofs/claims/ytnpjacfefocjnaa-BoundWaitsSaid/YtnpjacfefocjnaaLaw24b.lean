/-
  THE LAWS OF LAYER 24 (bound), the walks: growth and waits. For every input each returns true. No conditions.
-/
import Derived.Test.YtnpjacfefocjnaaLaw24
namespace Go.Proofs.Ytnpjacfefocjnaa
open Go.ChangeShapes Go.WideShapes Go.ChangeAt Go.RowKit

/-! ### The plain law: growth -/
theorem sat_mono {x y : Nat} (h : x ≤ y) : sat x ≤ sat y := by unfold sat; omega
theorem addS_mono {a b c d : Nat} (h : a ≤ c) (h2 : b ≤ d) : addS a b ≤ addS c d := sat_mono (by omega)
theorem mulS_mono {a b c d : Nat} (h : a ≤ c) (h2 : b ≤ d) : mulS a b ≤ mulS c d := sat_mono (Nat.mul_le_mul h h2)
theorem scaleS_mono {n a n' a' : Nat} (b : Nat) (h : n ≤ n') (h2 : a ≤ a') : scaleS n a b ≤ scaleS n' a' b := by
  unfold scaleS
  split
  · exact Nat.le_refl _
  · refine sat_mono (Nat.div_le_div_right ?_)
    have := Nat.mul_le_mul h h2
    omega
theorem scaleS_anti (n a : Nat) {b b' : Nat} (h : b ≤ b') : scaleS n a b' ≤ scaleS n a b := by
  unfold scaleS
  split
  · rw [if_pos (by omega)]; exact Nat.le_refl _
  · split
    · unfold sat; omega
    · rename_i h1 h2
      refine sat_mono ?_
      have hb : 0 < b := by omega
      have e := Nat.div_add_mod (n * a + b - 1) b
      have hm := Nat.mod_lt (n * a + b - 1) hb
      have key : n * a ≤ (n * a + b - 1) / b * b := boundScales.up_of n a b hb _ rfl
      generalize (n * a + b - 1) / b = q at *
      have h3 : q * b ≤ q * b' := Nat.mul_le_mul_left q h
      have : (n * a + b' - 1) / b' < q + 1 := by
        rw [Nat.div_lt_iff_lt_mul (by omega), Nat.add_mul]
        omega
      omega
theorem stepS_mono {t t' : Nat} (m : Nat) (h : t ≤ t') : stepS t m ≤ stepS t' m := addS_mono (scaleS_mono m h (Nat.le_refl _)) (Nat.le_refl _)
theorem stepS_anti (t : Nat) {m m' : Nat} (h : m ≤ m') : stepS t m' ≤ stepS t m := addS_mono (scaleS_anti t 1024 h) (Nat.le_refl _)
theorem sum3_mono {a b c a' b' c' : Nat} (h1 : a ≤ a') (h2 : b ≤ b') (h3 : c ≤ c') : sum3 a b c ≤ sum3 a' b' c' := addS_mono (addS_mono (addS_mono (Nat.le_refl _) h1) h2) h3
theorem lagS_mono {t g c m t' g' c' m' : Nat} (h1 : t ≤ t') (h2 : g ≤ g') (h3 : c ≤ c') (h4 : m' ≤ m) : lagS t g c m ≤ lagS t' g' c' m' :=
  addS_mono (mulS_mono (Nat.le_refl _) (sum3_mono h3 h2 (Nat.le_trans (stepS_mono m h1) (stepS_anti t' h4)))) (Nat.le_refl _)
theorem levelS_mono {n t g c m M n' t' g' c' m' M' : Nat} (h0 : n ≤ n') (h1 : t ≤ t') (h2 : g ≤ g') (h3 : c ≤ c') (h4 : m' ≤ m) (h5 : M ≤ M') : levelS n t g c m M ≤ levelS n' t' g' c' m' M' :=
  mulS_mono h0 (addS_mono h1 (scaleS_mono 1024 (sum3_mono h3 (mulS_mono (Nat.le_refl _) h2) (mulS_mono (Nat.le_refl _) (Nat.le_trans (stepS_mono m h1) (stepS_anti t' h4)))) h5))

namespace boundGrows
set_option maxRecDepth 100000 in
set_option maxHeartbeats 2000000 in
theorem walk (n t g c m M : Nat) (hn : n < 18446744073709551616) (ht : t < 18446744073709551616) (hg : g < 18446744073709551616) (hc : c < 18446744073709551616) (hm : m < 18446744073709551616) (hM : M < 18446744073709551616) (w : World) :
    Calls Try.prog 25 #[.int .u64 n, .int .u64 t, .int .u64 g, .int .u64 c, .int .u64 m, .int .u64 M] w fun e w' => e = .returned (.bool true) ∧ Below w.heap.size w w' := by
  have mx : ∀ x : Nat, x < 18446744073709551616 → ∃ y : Nat, max (x : Int) (M : Int) = (y : Int) ∧ x ≤ y ∧ y < 18446744073709551616 := fun x hx => ⟨max x M, by omega, by omega, by omega⟩
  obtain ⟨t1, xt, lt, bt⟩ := mx t ht
  obtain ⟨g1, xg, lg, bg⟩ := mx g hg
  obtain ⟨c1, xc, lc, bc⟩ := mx c hc
  obtain ⟨m1, xm, lm, bm⟩ := mx m hm
  obtain ⟨n1, xn, ln, bn⟩ := mx n hn
  obtain ⟨k1, xk, lk, bk⟩ : ∃ y : Nat, max 1024 (M : Int) = (y : Int) ∧ 1024 ≤ y ∧ y < 18446744073709551616 := ⟨max 1024 M, by omega, by omega, by omega⟩
  clear mx
  have r := Nat.le_refl
  have M1 := Lib.hid fun W => lag_any t g c m ht hg hc hm W
  have M2 := Lib.hid fun W => level_any n t g c m 1024 hn ht hg hc hm (by omega) W
  have M3 := Lib.hid fun W => lag_any t1 g c m bt hg hc hm W
  have M4 := Lib.hid fun W => lag_any t g1 c m ht bg hc hm W
  have M5 := Lib.hid fun W => lag_any t g c1 m ht hg bc hm W
  have M6 := Lib.hid fun W => lag_any t g c m1 ht hg hc bm W
  have M7 := Lib.hid fun W => level_any n1 t g c m 1024 bn ht hg hc hm (by omega) W
  have M8 := Lib.hid fun W => level_any n t1 g c m 1024 hn bt hg hc hm (by omega) W
  have M9 := Lib.hid fun W => level_any n t g c m k1 hn ht hg hc hm bk W
  have M10 := Lib.hid fun W => level_any n t g c m1 1024 hn ht hg hc bm (by omega) W
  have e3 : decide (lagS t1 g c m < lagS t g c m) = false := decide_eq_false (Nat.not_lt.2 (lagS_mono lt (r _) (r _) (r _)))
  have e4 : decide (lagS t g1 c m < lagS t g c m) = false := decide_eq_false (Nat.not_lt.2 (lagS_mono (r _) lg (r _) (r _)))
  have e5 : decide (lagS t g c1 m < lagS t g c m) = false := decide_eq_false (Nat.not_lt.2 (lagS_mono (r _) (r _) lc (r _)))
  have e6 : decide (lagS t g c m < lagS t g c m1) = false := decide_eq_false (Nat.not_lt.2 (lagS_mono (r _) (r _) (r _) lm))
  have e7 : decide (levelS n t g c m 1024 ≤ levelS n1 t g c m 1024) = true := decide_eq_true (levelS_mono ln (r _) (r _) (r _) (r _) (r _))
  have e8 : decide (levelS n t g c m 1024 ≤ levelS n t1 g c m 1024) = true := decide_eq_true (levelS_mono (r _) lt (r _) (r _) (r _) (r _))
  have e9 : decide (levelS n t g c m 1024 ≤ levelS n t g c m k1) = true := decide_eq_true (levelS_mono (r _) (r _) (r _) (r _) (r _) lk)
  have e10 : decide (levelS n t g c m1 1024 ≤ levelS n t g c m 1024) = true := decide_eq_true (levelS_mono (r _) (r _) (r _) (r _) lm (r _))
  clear r lt lg lc lm ln lk
  generalize lagS t g c m = v1 at *
  generalize levelS n t g c m 1024 = v2 at *
  generalize lagS t1 g c m = v3 at *
  generalize lagS t g1 c m = v4 at *
  generalize lagS t g c1 m = v5 at *
  generalize lagS t g c m1 = v6 at *
  generalize levelS n1 t g c m 1024 = v7 at *
  generalize levelS n t1 g c m 1024 = v8 at *
  generalize levelS n t g c m k1 = v9 at *
  generalize levelS n t g c m1 1024 = v10 at *
  go_enter Try.func25, Try.ntmps25
  go_wp2_with fail
  refine (shown24 _).mono ?_
  rintro e w1 ⟨rfl, hb1⟩
  have hz1 := hb1.size
  go_wp2_with fail
  refine (M1.out _).mono ?_
  rintro e w2 ⟨rfl, hb2⟩
  have hz2 := hb2.size
  go_wp2_with fail
  refine (M2.out _).mono ?_
  rintro e w3 ⟨rfl, hb3⟩
  have hz3 := hb3.size
  go_wp2_with fail
  refine (M3.out _).mono ?_
  rintro e w4 ⟨rfl, hb4⟩
  have hz4 := hb4.size
  go_wp2_with fail
  refine (M4.out _).mono ?_
  rintro e w5 ⟨rfl, hb5⟩
  have hz5 := hb5.size
  go_wp2_with fail
  refine (M5.out _).mono ?_
  rintro e w6 ⟨rfl, hb6⟩
  have hz6 := hb6.size
  go_wp2_with fail
  refine (M6.out _).mono ?_
  rintro e w7 ⟨rfl, hb7⟩
  have hz7 := hb7.size
  go_wp2_with fail
  refine (M7.out _).mono ?_
  rintro e w8 ⟨rfl, hb8⟩
  have hz8 := hb8.size
  go_wp2_with fail
  refine (M8.out _).mono ?_
  rintro e w9 ⟨rfl, hb9⟩
  have hz9 := hb9.size
  go_wp2_with fail
  refine (M9.out _).mono ?_
  rintro e w10 ⟨rfl, hb10⟩
  have hz10 := hb10.size
  go_wp2_with fail
  refine (M10.out _).mono ?_
  rintro e w11 ⟨rfl, hb11⟩
  have hz11 := hb11.size
  go_wp2_with fail
  go_ret
  have B1 := hb1
  have B2 := B1.trans (hb2.mono (by omega))
  have B3 := B2.trans (hb3.mono (by omega))
  have B4 := B3.trans (hb4.mono (by omega))
  have B5 := B4.trans (hb5.mono (by omega))
  have B6 := B5.trans (hb6.mono (by omega))
  have B7 := B6.trans (hb7.mono (by omega))
  have B8 := B7.trans (hb8.mono (by omega))
  have B9 := B8.trans (hb9.mono (by omega))
  have B10 := B9.trans (hb10.mono (by omega))
  have B11 := B10.trans (hb11.mono (by omega))
  exact ⟨rfl, B11⟩
end boundGrows

/-! ### Waits -/
def waitN (l n M m : Nat) : Nat → Nat
  | 0 => 0
  | k + 1 => sum3 (waitN l n M m k) (mulS n (scaleS (waitN l n M m k) M m)) l
theorem waitN_lt (l n M m k : Nat) : waitN l n M m k < 18446744073709551616 := by
  cases k with
  | zero => show 0 < _; omega
  | succ k => exact sum3_lt _ _ _
def waitS (n d t g c m M : Nat) : Nat := waitN (levelS n t g c m M) n M m (min d 64)

set_option maxRecDepth 100000 in
set_option maxHeartbeats 1000000 in
theorem wait_any (n d t g c m M : Nat) (hn : n < 18446744073709551616) (hd : d < 18446744073709551616) (ht : t < 18446744073709551616) (hg : g < 18446744073709551616) (hc : c < 18446744073709551616) (hm : m < 18446744073709551616) (hM : M < 18446744073709551616) (w : World) :
    Calls Try.prog 74 #[.int .u64 n, .int .u64 d, .int .u64 t, .int .u64 g, .int .u64 c, .int .u64 m, .int .u64 M] w fun e w' => e = .returned (.int .u64 (waitS n d t g c m M : Nat)) ∧ Below w.heap.size w w' := by
  obtain ⟨D, hD⟩ : ∃ D, D = min d 64 := ⟨_, rfl⟩
  have xD : min (d : Int) 64 = (D : Int) := by omega
  have bD : D ≤ 64 := by omega
  have M0 := Lib.hid fun W => level_any n t g c m M hn ht hg hc hm hM W
  have bl := levelS_lt n t g c m M
  have e : waitS n d t g c m M = waitN (levelS n t g c m M) n M m D := by unfold waitS; rw [hD]
  rw [e]
  clear e hD
  generalize levelS n t g c m M = l at *
  go_enter Try.func74, Try.ntmps74
  go_wp2_with fail
  refine (M0.out _).mono ?_
  clear M0
  rintro e w1 ⟨rfl, hb1⟩
  have hz1 := hb1.size
  go_wp2_with fail
  go_loopw [15, 26] (fun s15 s26 wr => ∃ k : Nat, k ≤ D ∧ s15 = .int .u64 (waitN l n M m k : Nat) ∧ s26 = .int .u64 k ∧ Below w.heap.size w wr) (fun _ s26 _ => D - (intOf s26).toNat)
  case atStart => exact ⟨0, by omega, rfl, rfl, hb1⟩
  case round =>
    obtain ⟨k, hk, rfl, rfl, hB⟩ := hrel
    have hzr := hB.size
    by_cases hlt : k < D
    · have z0 : decide ((k : Int) < (D : Int)) = true := decide_eq_true (by omega)
      have z1 : decide (k < D) = true := decide_eq_true hlt
      have bw := waitN_lt l n M m k
      have hnext : waitN l n M m (k + 1) = sum3 (waitN l n M m k) (mulS n (scaleS (waitN l n M m k) M m)) l := rfl
      have M1 := Lib.hid fun W => scale_any (waitN l n M m k) M m bw hM hm W
      have M2 := Lib.hid fun W => mul_any n (scaleS (waitN l n M m k) M m) hn (scaleS_lt _ _ _) W
      have M3 := Lib.hid fun b W c0 c1 c2 => sum_any (waitN l n M m k) (mulS n (scaleS (waitN l n M m k) M m)) l bw (mulS_lt _ _) bl b W c0 c1 c2
      rw [← hnext] at M3
      have HN : Hid (waitN l n M m (k + 1) = waitN l n M m (k + 1)) := rfl
      generalize hq : waitN l n M m (k + 1) = q2 at *
      generalize mulS n (scaleS (waitN l n M m k) M m) = q1 at *
      generalize scaleS (waitN l n M m k) M m = q0 at *
      have HQ := Lib.hid hq
      clear hq hnext HN
      generalize waitN l n M m k = qk at *
      go_wp2_with fail
      refine (M1.out _).mono ?_
      rintro e w2 ⟨rfl, hb2⟩
      have hz2 := hb2.size
      go_wp2_with fail
      refine (M2.out _).mono ?_
      rintro e w3 ⟨rfl, hb3⟩
      have hz3 := hb3.size
      go_wp2_with fail
      refine (M3.out _ _ (by simp [World.cell?_alloc_new]) (by simp [World.cell?_alloc_new]) (by simp [World.cell?_alloc_new])).mono ?_
      rintro e w4 ⟨rfl, rfl⟩
      go_wp2_with fail
      have B3 := hB.trans ((hb2.mono hzr).trans (hb3.mono (by omega)))
      go_roundw
      case rel => exact ⟨k + 1, by omega, by rw [HQ.out], by go_num, B3.alloc (by omega) _⟩
      case measure => simp [intOf]; omega
    · obtain rfl : k = D := by omega
      have z0 : decide ((k : Int) < (k : Int)) = false := decide_eq_false (by omega)
      go_wp2_with fail
      go_ret
      exact ⟨rfl, hB⟩

set_option maxRecDepth 100000 in
set_option maxHeartbeats 1000000 in
theorem refWait_le (n t g c m M : Nat) (hn : n < 18446744073709551616) (ht : t < 18446744073709551616) (hg : g < 18446744073709551616) (hc : c < 18446744073709551616) (hm : m < 18446744073709551616) (hM : M < 18446744073709551616) (d : Nat) :
    ∀ (w : World), d ≤ 64 → Calls Try.prog 75 #[.int .u64 n, .int .u64 d, .int .u64 t, .int .u64 g, .int .u64 c, .int .u64 m, .int .u64 M] w fun e w' => e = .returned (.int .u64 (waitN (levelS n t g c m M) n M m d : Nat)) ∧ Below w.heap.size w w' := by
  induction d with
  | zero =>
    intro w _
    go_enter Try.func75, Try.ntmps75
    go_wp2_with fail
    go_ret
    exact ⟨rfl, Below.refl _ _⟩
  | succ k ih =>
    intro w hk
    have m0 := fun W => ih W (by omega)
    have m4 := fun W => refLevel_any n t g c m M hn ht hg hc hm hM W
    have bl := levelS_lt n t g c m M
    generalize levelS n t g c m M = l at *
    have bw := waitN_lt l n M m k
    have m1 := fun W => refScale_b (waitN l n M m k) M m bw hM hm W
    have m2 := fun W => refMul_b (scaleS (waitN l n M m k) M m) n (scaleS_lt _ _ _) hn W
    rw [mulS_comm _ n] at m2
    have m5 := fun W => refAdd_b (mulS n (scaleS (waitN l n M m k) M m)) l (mulS_lt _ _) bl W
    have m6 := fun W => refAdd_b (addS (mulS n (scaleS (waitN l n M m k) M m)) l) (waitN l n M m k) (addS_lt _ _) bw W
    rw [wait_sum] at m6
    change ∀ W : World, Calls _ _ _ W fun e w' => e = .returned (.int .u64 (waitN l n M m (k + 1) : Nat)) ∧ _ at m6
    generalize waitN l n M m (k + 1) = R at *
    generalize addS (mulS n (scaleS (waitN l n M m k) M m)) l = s3 at *
    generalize mulS n (scaleS (waitN l n M m k) M m) = s2 at *
    generalize scaleS (waitN l n M m k) M m = s1 at *
    generalize waitN l n M m k = s0 at *
    have M0 := Lib.hid m0
    have M1 := Lib.hid m1
    have M2 := Lib.hid m2
    have M4 := Lib.hid m4
    have M5 := Lib.hid m5
    have M6 := Lib.hid m6
    clear m0 m1 m2 m4 m5 m6 ih
    obtain ⟨d, hd⟩ : ∃ d, d = k + 1 := ⟨_, rfl⟩
    have e1 : (d : Int) - 1 = (k : Int) := by omega
    have e2 : ((d : Int) == 0) = false := by simp; omega
    have e3 : decide ((64 : Int) < (d : Int)) = false := decide_eq_false (by omega)
    have e4 : decide (64 < d) = false := decide_eq_false (by omega)
    have e5 : d ≤ 64 := by omega
    rw [← hd]
    clear hd hk
    go_enter Try.func75, Try.ntmps75
    go_wp2_with fail
    refine (M0.out _).mono ?_
    rintro e w1 ⟨rfl, hb1⟩
    have hz1 := hb1.size
    go_wp2_with fail
    refine (M1.out _).mono ?_
    rintro e w2 ⟨rfl, hb2⟩
    have hz2 := hb2.size
    go_wp2_with fail
    refine (M2.out _).mono ?_
    rintro e w3 ⟨rfl, hb3⟩
    have hz3 := hb3.size
    go_wp2_with fail
    refine (M4.out _).mono ?_
    rintro e w4 ⟨rfl, hb4⟩
    have hz4 := hb4.size
    go_wp2_with fail
    refine (M5.out _).mono ?_
    rintro e w5 ⟨rfl, hb5⟩
    have hz5 := hb5.size
    go_wp2_with fail
    refine (M6.out _).mono ?_
    rintro e w6 ⟨rfl, hb6⟩
    have hz6 := hb6.size
    go_wp2_with fail
    go_ret
    have B1 := hb1
    have B2 := B1.trans (hb2.mono (by omega))
    have B3 := B2.trans (hb3.mono (by omega))
    have B4 := B3.trans (hb4.mono (by omega))
    have B5 := B4.trans (hb5.mono (by omega))
    have B6 := B5.trans (hb6.mono (by omega))
    exact ⟨rfl, B6⟩

set_option maxRecDepth 100000 in
set_option maxHeartbeats 1000000 in
theorem refWait_any (n d t g c m M : Nat) (hn : n < 18446744073709551616) (hd : d < 18446744073709551616) (ht : t < 18446744073709551616) (hg : g < 18446744073709551616) (hc : c < 18446744073709551616) (hm : m < 18446744073709551616) (hM : M < 18446744073709551616) (w : World) :
    Calls Try.prog 75 #[.int .u64 n, .int .u64 d, .int .u64 t, .int .u64 g, .int .u64 c, .int .u64 m, .int .u64 M] w fun e w' => e = .returned (.int .u64 (waitS n d t g c m M : Nat)) ∧ Below w.heap.size w w' := by
  by_cases h : d ≤ 64
  · have e : waitS n d t g c m M = waitN (levelS n t g c m M) n M m d := by unfold waitS; rw [Nat.min_eq_left h]
    rw [e]
    exact refWait_le n t g c m M hn ht hg hc hm hM d w h
  · have e : waitS n d t g c m M = waitN (levelS n t g c m M) n M m (63 + 1) := by unfold waitS; rw [Nat.min_eq_right (by omega)]
    rw [e]
    clear e
    have m0 := fun W => refWait_le n t g c m M hn ht hg hc hm hM 63 W (by omega)
    have m4 := fun W => refLevel_any n t g c m M hn ht hg hc hm hM W
    have bl := levelS_lt n t g c m M
    generalize levelS n t g c m M = l at *
    have bw := waitN_lt l n M m 63
    have m1 := fun W => refScale_b (waitN l n M m 63) M m bw hM hm W
    have m2 := fun W => refMul_b (scaleS (waitN l n M m 63) M m) n (scaleS_lt _ _ _) hn W
    rw [mulS_comm _ n] at m2
    have m5 := fun W => refAdd_b (mulS n (scaleS (waitN l n M m 63) M m)) l (mulS_lt _ _) bl W
    have m6 := fun W => refAdd_b (addS (mulS n (scaleS (waitN l n M m 63) M m)) l) (waitN l n M m 63) (addS_lt _ _) bw W
    rw [wait_sum] at m6
    change ∀ W : World, Calls _ _ _ W fun e w' => e = .returned (.int .u64 (waitN l n M m (63 + 1) : Nat)) ∧ _ at m6
    generalize waitN l n M m (63 + 1) = R at *
    generalize addS (mulS n (scaleS (waitN l n M m 63) M m)) l = s3 at *
    generalize mulS n (scaleS (waitN l n M m 63) M m) = s2 at *
    generalize scaleS (waitN l n M m 63) M m = s1 at *
    generalize waitN l n M m 63 = s0 at *
    have M0 := Lib.hid m0
    have M1 := Lib.hid m1
    have M2 := Lib.hid m2
    have M4 := Lib.hid m4
    have M5 := Lib.hid m5
    have M6 := Lib.hid m6
    clear m0 m1 m2 m4 m5 m6
    have e2 : ((d : Int) == 0) = false := by simp; omega
    have e3 : decide ((64 : Int) < (d : Int)) = true := decide_eq_true (by omega)
    have e4 : decide (64 < d) = true := decide_eq_true (by omega)
    clear h
    go_enter Try.func75, Try.ntmps75
    go_wp2_with fail
    refine (M0.out _).mono ?_
    rintro e w1 ⟨rfl, hb1⟩
    have hz1 := hb1.size
    go_wp2_with fail
    refine (M1.out _).mono ?_
    rintro e w2 ⟨rfl, hb2⟩
    have hz2 := hb2.size
    go_wp2_with fail
    refine (M2.out _).mono ?_
    rintro e w3 ⟨rfl, hb3⟩
    have hz3 := hb3.size
    go_wp2_with fail
    refine (M4.out _).mono ?_
    rintro e w4 ⟨rfl, hb4⟩
    have hz4 := hb4.size
    go_wp2_with fail
    refine (M5.out _).mono ?_
    rintro e w5 ⟨rfl, hb5⟩
    have hz5 := hb5.size
    go_wp2_with fail
    refine (M6.out _).mono ?_
    rintro e w6 ⟨rfl, hb6⟩
    have hz6 := hb6.size
    go_wp2_with fail
    go_ret
    have B1 := hb1
    have B2 := B1.trans (hb2.mono (by omega))
    have B3 := B2.trans (hb3.mono (by omega))
    have B4 := B3.trans (hb4.mono (by omega))
    have B5 := B4.trans (hb5.mono (by omega))
    have B6 := B5.trans (hb6.mono (by omega))
    exact ⟨rfl, B6⟩

namespace boundWaits
set_option maxRecDepth 100000 in
set_option maxHeartbeats 2000000 in
theorem walk (n d t g c m M : Nat) (hn : n < 18446744073709551616) (hd : d < 18446744073709551616) (ht : t < 18446744073709551616) (hg : g < 18446744073709551616) (hc : c < 18446744073709551616) (hm : m < 18446744073709551616) (hM : M < 18446744073709551616) (w : World) :
    Calls Try.prog 28 #[.int .u64 n, .int .u64 d, .int .u64 t, .int .u64 g, .int .u64 c, .int .u64 m, .int .u64 M] w fun e w' => e = .returned (.bool true) ∧ Below w.heap.size w w' := by
  obtain ⟨D, hD⟩ : ∃ D, D = d % 66 := ⟨_, rfl⟩
  have xD : (d : Int) % 66 = (D : Int) := by omega
  have bD : D < 66 := by omega
  have bD2 : D < 18446744073709551616 := by omega
  have m1 := fun W => wait_any n D t g c m M hn bD2 ht hg hc hm hM W
  have m2 := fun W => refWait_any n D t g c m M hn bD2 ht hg hc hm hM W
  clear hD
  by_cases h : 64 ≤ D
  · have m3 := fun W => wait_any n 64 t g c m M hn (by omega) ht hg hc hm hM W
    have e : waitS n D t g c m M = waitS n 64 t g c m M := by unfold waitS; rw [Nat.min_eq_right h]; rfl
    rw [e] at m1 m2
    have z : decide ((64 : Int) ≤ (D : Int)) = true := decide_eq_true (by omega)
    have z2 : decide (64 ≤ D) = true := decide_eq_true h
    clear h e
    generalize waitS n 64 t g c m M = R at *
    have M1 := Lib.hid m1
    have M2 := Lib.hid m2
    have M3 := Lib.hid m3
    clear m1 m2 m3
    go_enter Try.func28, Try.ntmps28
    go_wp2_with fail
    refine (shown24 _).mono ?_
    rintro e w1 ⟨rfl, hb1⟩
    have hz1 := hb1.size
    go_wp2_with fail
    refine (M1.out _).mono ?_
    rintro e w2 ⟨rfl, hb2⟩
    have hz2 := hb2.size
    go_wp2_with fail
    refine (M2.out _).mono ?_
    rintro e w3 ⟨rfl, hb3⟩
    have hz3 := hb3.size
    go_wp2_with fail
    refine (M3.out _).mono ?_
    rintro e w4 ⟨rfl, hb4⟩
    have hz4 := hb4.size
    go_wp2_with fail
    go_ret
    have B1 := hb1
    have B2 := B1.trans (hb2.mono (by omega))
    have B3 := B2.trans (hb3.mono (by omega))
    have B4 := B3.trans (hb4.mono (by omega))
    exact ⟨rfl, B4⟩
  · have m3 := fun W => wait_any n (D + 1) t g c m M hn (by omega) ht hg hc hm hM W
    have m4 := fun W => level_any n t g c m M hn ht hg hc hm hM W
    have m5 := fun W => add_b (waitS n D t g c m M) (levelS n t g c m M) (waitN_lt _ _ _ _ _) (levelS_lt _ _ _ _ _ _) W
    have key : addS (waitS n D t g c m M) (levelS n t g c m M) ≤ waitS n (D + 1) t g c m M := by
      unfold waitS
      rw [Nat.min_eq_left (show D ≤ 64 by omega), Nat.min_eq_left (show D + 1 ≤ 64 by omega)]
      show _ ≤ sum3 _ _ _
      unfold sum3 addS sat
      omega
    have z : decide ((64 : Int) ≤ (D : Int)) = false := decide_eq_false (by omega)
    have z2 : decide (64 ≤ D) = false := decide_eq_false h
    obtain ⟨D1, hD1⟩ : ∃ x, x = D + 1 := ⟨_, rfl⟩
    have xD1 : (D : Int) + 1 = (D1 : Int) := by omega
    rw [← hD1] at m3 key
    clear hD1 h
    generalize addS (waitS n D t g c m M) (levelS n t g c m M) = y at *
    generalize waitS n D1 t g c m M = R1 at *
    generalize waitS n D t g c m M = R at *
    generalize levelS n t g c m M = l at *
    have k1 : decide (y ≤ R1) = true := decide_eq_true key
    clear key
    have M1 := Lib.hid m1
    have M2 := Lib.hid m2
    have M3 := Lib.hid m3
    have M4 := Lib.hid m4
    have M5 := Lib.hid m5
    clear m1 m2 m3 m4 m5
    go_enter Try.func28, Try.ntmps28
    go_wp2_with fail
    refine (shown24 _).mono ?_
    rintro e w1 ⟨rfl, hb1⟩
    have hz1 := hb1.size
    go_wp2_with fail
    refine (M1.out _).mono ?_
    rintro e w2 ⟨rfl, hb2⟩
    have hz2 := hb2.size
    go_wp2_with fail
    refine (M2.out _).mono ?_
    rintro e w3 ⟨rfl, hb3⟩
    have hz3 := hb3.size
    go_wp2_with fail
    refine (M3.out _).mono ?_
    rintro e w4 ⟨rfl, hb4⟩
    have hz4 := hb4.size
    go_wp2_with fail
    refine (M4.out _).mono ?_
    rintro e w5 ⟨rfl, hb5⟩
    have hz5 := hb5.size
    go_wp2_with fail
    refine (M5.out _).mono ?_
    rintro e w6 ⟨rfl, hb6⟩
    have hz6 := hb6.size
    go_wp2_with fail
    go_ret
    have B1 := hb1
    have B2 := B1.trans (hb2.mono (by omega))
    have B3 := B2.trans (hb3.mono (by omega))
    have B4 := B3.trans (hb4.mono (by omega))
    have B5 := B4.trans (hb5.mono (by omega))
    have B6 := B5.trans (hb6.mono (by omega))
    exact ⟨rfl, B6⟩
end boundWaits

end Go.Proofs.Ytnpjacfefocjnaa
