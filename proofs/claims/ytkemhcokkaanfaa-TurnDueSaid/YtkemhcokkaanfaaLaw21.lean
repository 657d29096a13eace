/-
  THE LAWS OF LAYER 21 (percpu), the walks, first part: what is awake; nobody. For every input each returns true. No conditions.
-/
import Derived.Test.YtkemhcokkaanfaaTurn4
import Derived.Test.YtkemhcokkaanfaaBetter
import Derived.Test.YtkemhcokkaanfaaFrame
namespace Go.Proofs.Ytkemhcokkaanfaa
open Go.ChangeShapes Go.WideShapes Go.ChangeAt Go.RowKit

theorem sat_in (x : Nat) (h : x < 18446744073709551616) : sat x = x := Nat.min_eq_left (by omega)

set_option maxRecDepth 100000 in
set_option maxHeartbeats 1000000 in
theorem awake21 (w : World) : Calls Try.prog 24 #[] w fun e w' => e = .returned (.bool true) ∧ Below w.heap.size w w' := by
  have m1 := fun W => tnew_yes 6000 (by omega) (by omega) W
  have m2 := fun W b h => begin_any b 6000 (-1) 0 0 0 W h 4 (by omega) (by omega)
  have m3 := fun W b h => tick_busy b 6000 4 0 0 0 W h (by omega) 1500 1024 3072 (by omega) (by omega) (by omega) (by omega) (by omega) (by omega)
  have m4 := fun W b h => tick_busy b 6000 4 1500 1500 0 W h (by omega) 500 1024 3072 (by omega) (by omega) (by omega) (by omega) (by omega) (by omega)
  have m5 := fun W => slice_any 6000 1024 3072 (by omega) (by omega) (by omega) W
  rw [show taskOf 4 = 4 from rfl, show ranOf (-1) 4 0 = 0 from rfl] at m2
  rw [show sliceN 6000 1024 3072 = 2000 from by decide +kernel, show sat (0 + 1500) = 1500 from rfl, show decide (2000 ≤ 1500) = false from rfl] at m3
  rw [show sliceN 6000 1024 3072 = 2000 from by decide +kernel, show sat (1500 + 500) = 2000 from rfl, show decide (2000 ≤ 2000) = true from rfl] at m4
  rw [show sliceN 6000 1024 3072 = 2000 from by decide +kernel] at m5
  have M1 := Lib.hid m1
  have M2 := Lib.hid m2
  have M3 := Lib.hid m3
  have M4 := Lib.hid m4
  have M5 := Lib.hid m5
  clear m1 m2 m3 m4 m5
  go_enter Try.func24, Try.ntmps24
  go_wp2_with fail
  refine (M1.out _).mono ?_
  rintro e w1 ⟨rfl, hT1, hb1⟩
  generalize hb : w.heap.size = b at *
  have HB := Lib.hid hb
  clear hb
  go_wp2_with fail
  refine (M2.out _ _ hT1).mono ?_
  rintro e w2 ⟨⟨v, rfl⟩, hT2, hg2⟩
  have hz1 : b ≤ w1.heap.size := by have := Blk.lt hT1; omega
  have hb2 := below_only hb1 hg2 (Nat.le_refl _) hz1
  clear hT1 hb1 hg2
  go_wp2_with fail
  refine (M3.out _ _ hT2).mono ?_
  rintro e w3 ⟨rfl, hT3, hg3⟩
  have hz2 : b ≤ w2.heap.size := by have := Blk.lt hT2; omega
  have hb3 := below_only hb2 hg3 (Nat.le_refl _) hz2
  clear hT2 hb2 hg3
  go_wp2_with fail
  refine (M4.out _ _ hT3).mono ?_
  rintro e w4 ⟨rfl, hT4, hg4⟩
  have hz3 : b ≤ w3.heap.size := by have := Blk.lt hT3; omega
  have hb4 := below_only hb3 hg4 (Nat.le_refl _) hz3
  clear hT3 hb3 hg4
  have hz4 : b < w4.heap.size := Blk.lt hT4
  go_wp2_with fail
  refine (M5.out _).mono ?_
  rintro e w5 ⟨rfl, hb5⟩
  have hT5 : TurnAt w5 b 6000 4 2000 2000 0 := Blk.below hT4 hb5 (Blk.lt hT4)
  clear hT4
  go_wp2_with fail
  refine (tran_any _ _ _ _ _ _ _ hT5).mono ?_
  rintro e w6 ⟨rfl, rfl⟩
  go_wp2_with fail
  refine (ttask_any _ _ _ _ _ _ _ hT5).mono ?_
  rintro e w6 ⟨rfl, rfl⟩
  go_wp2_with fail
  go_ret
  exact ⟨rfl, by rw [HB.out]; exact hb4.trans (hb5.mono (by omega))⟩

namespace turnNobody
end turnNobody

/-- an entity's block -/
abbrev entCells (i : Int) (x : Nat) (v : Int) (r : Nat) : Array Value := #[.int .i64 i, .int .u64 x, .int .i64 v, .int .u64 r]
theorem Blk.ent {w : World} {b : Nat} {i : Int} {x : Nat} {v : Int} {r : Nat} {t : TypeId} (h : Blk w b (entCells i x v r) t) :
    w.cell? ⟨b, 0, none⟩ = some (.int .i64 i) ∧ w.cell? ⟨b, 1, none⟩ = some (.int .u64 x) ∧ w.cell? ⟨b, 2, none⟩ = some (.int .i64 v) ∧ w.cell? ⟨b, 3, none⟩ = some (.int .u64 r) :=
  ⟨Blk.cell h 0, Blk.cell h 1, Blk.cell h 2, Blk.cell h 3⟩

namespace turnBetter
theorem law (a b g : Int) (ha1 : -2147483648 ≤ a) (ha2 : a ≤ 2147483647) (hb1 : -2147483648 ≤ b) (hb2 : b ≤ 2147483647) (hg1 : 0 ≤ g) (hg2 : g ≤ 65535) :
    betterB a b g = decide (g < a - b) ∧ betterB a b (-g) = decide (b < a) := by
  have e1 : holdZ g 0 1099511627776 = g := by unfold holdZ; rw [if_neg (by omega), if_neg (by omega)]
  have e2 : holdZ (-g) 0 1099511627776 = 0 := by unfold holdZ; split <;> (try split) <;> omega
  unfold betterB
  rw [e1, e2, satZ_in b g (by omega) (by omega), satZ_in b 0 (by omega) (by omega)]
  refine ⟨decide_eq_decide.2 (by omega), decide_eq_decide.2 (by omega)⟩

end turnBetter

end Go.Proofs.Ytkemhcokkaanfaa
