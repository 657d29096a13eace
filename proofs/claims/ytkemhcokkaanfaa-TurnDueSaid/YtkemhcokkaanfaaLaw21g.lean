/-
  THE LAWS OF LAYER 21 (percpu), the walks, sixth part: what is due. For every input it returns true. No conditions.
-/
import Derived.Test.YtkemhcokkaanfaaLaw21f
namespace Go.Proofs.Ytkemhcokkaanfaa
open Go.ChangeShapes Go.WideShapes Go.ChangeAt Go.RowKit

namespace turnDue
/-- what was served in the first k pieces -/
def pieces (xs : List Nat) : Nat → Nat
  | 0 => 0
  | k + 1 => pieces xs k + xs.getD k 0
theorem pieces_le (xs : List Nat) (hx : ∀ j, j < xs.length → xs.getD j 0 < 65536) (k : Nat) (hk : k ≤ xs.length) : pieces xs k ≤ k * 65536 := by
  induction k with
  | zero => exact Nat.zero_le _
  | succ k ih =>
    have h1 := ih (by omega)
    have h2 := hx k (by omega)
    rw [Nat.succ_mul]
    unfold pieces
    omega
theorem slice_pos (lat x ld : Nat) (h : 1 ≤ lat) : 1 ≤ sliceN lat x ld := by
  unfold sliceN
  split
  · exact h
  · generalize lat * x / ld = q
    omega

set_option maxRecDepth 100000 in
set_option maxHeartbeats 6000000 in
theorem walk (lt x o : Nat) (A : Option Addr) (xs : List Nat) (c : Nat) (hl : lt < 4294967296) (hx : x < 65536) (ho : o < 65536) (w : World) (hA : NumsAt .u16 w w.heap.size A xs) (hX : ∀ j, j < xs.length → xs.getD j 0 < 65536) (hn : xs.length ≤ 9223372036854775807) :
    Calls Try.prog 7 #[.agg #[.int .u32 lt, .int .u16 x, .int .u16 o, .slice A xs.length c]] w fun e w' => e = .returned (.bool true) ∧ Below w.heap.size w w' := by
  obtain ⟨n, hnx⟩ : ∃ n, n = xs.length := ⟨_, rfl⟩
  rw [← hnx]
  rw [← hnx] at hn
  have HL := Lib.hid hnx
  have HX := Lib.hid hX
  have HLE := Lib.hid fun k (hk : k ≤ n) => pieces_le xs hX k (by rw [← hnx]; exact hk)
  clear hnx hX
  obtain ⟨L, hL⟩ : ∃ L, L = 1 + lt % 1000000 := ⟨_, rfl⟩
  have e1 : (1 : Int) + (lt : Int) % 1000000 = (L : Int) := by omega
  have L1 : 1 ≤ L := by omega
  have L2 : L ≤ 1000000 := by omega
  obtain ⟨x2, hx2⟩ : ∃ x2, x2 = 2 + x := ⟨_, rfl⟩
  have e2 : (2 : Int) + (x : Int) = (x2 : Int) := by omega
  obtain ⟨ld, hld⟩ : ∃ ld, ld = x2 + o := ⟨_, rfl⟩
  have e3 : (x2 : Int) + (o : Int) = (ld : Int) := by omega
  have xb : x2 < 70000 := by omega
  have lb : ld < 140000 := by omega
  clear hL hx2 hld
  have zp := slice_pos L x2 ld L1
  have M1 := Lib.hid fun W => tnew_yes L L1 (by omega) W
  have M2 := Lib.hid fun W => slice_any L x2 ld (by omega) (by omega) (by omega) W
  have M3 := Lib.hid fun b W h => begin_any b L (-1) 0 0 0 W h 1 (by omega) (by omega)
  rw [show taskOf 1 = 1 from rfl, show ranOf (-1) 1 0 = 0 from rfl] at M3
  have M4 := Lib.hid fun b r n W h (h1 : n < 65536) (h2 : r ≤ 10000000) => by
    have := tick_busy b L 1 r r 0 W h (by omega) n x2 ld (by omega) (by omega) (by omega) (by omega) (by omega) (by omega)
    rw [sat_in (r + n) (by omega)] at this
    exact this
  have M5 := Lib.hid fun b r W h => begin_any b L 1 r r 0 W h 1 (by omega) (by omega)
  have M6 := Lib.hid fun b r W h => begin_any b L 1 r r 0 W h 2 (by omega) (by omega)
  have M7 := Lib.hid fun b r W h (h2 : r ≤ 10000000) => by
    have := tick_busy b L 2 0 r 0 W h (by omega) 0 x2 ld (by omega) (by omega) (by omega) (by omega) (by omega) (by omega)
    rw [show sat (0 + 0) = 0 from rfl, show decide (sliceN L x2 ld ≤ 0) = false from decide_eq_false (by omega)] at this
    exact this
  generalize hz : sliceN L x2 ld = z at *
  go_enter Try.func7, Try.ntmps7
  go_wp2_with fail
  refine (awake21 _).mono ?_
  rintro e w1 ⟨rfl, hb1⟩
  have hz1 := hb1.size
  simp at hz1
  have X1 : Blk w1 w.heap.size #[.int .u32 lt, .int .u16 x, .int .u16 o, .slice A n c] 37 := (Blk.new w _ _).below hb1 (by simp)
  have B1 := ((Below.refl w.heap.size w).alloc (Nat.le_refl _) (.cells #[.int .u32 lt, .int .u16 x, .int .u16 o, .slice A n c] 37)).trans (hb1.mono (by simp))
  have k0 := X1.cell 0
  have k1 := X1.cell 1
  have k2 := X1.cell 2
  have k3 := X1.cell 3
  simp at k0 k1 k2 k3
  clear hb1
  go_wp2_with fail
  refine (M1.out _).mono ?_
  rintro e w2 ⟨rfl, hT2, hb2⟩
  obtain ⟨b, hb⟩ : ∃ b, b = w1.heap.size := ⟨_, rfl⟩
  rw [← hb] at hT2 hb2 hz1
  rw [← hb]
  have hz2 : b < w2.heap.size := Blk.lt hT2
  have B2 := B1.trans (hb2.mono (by omega))
  have X2 := X1.below hb2 (by omega)
  have j0 := X2.cell 0
  have j1 := X2.cell 1
  have j2 := X2.cell 2
  have j3 := X2.cell 3
  simp at j0 j1 j2 j3
  have hwb : w.heap.size ≤ b := by omega
  clear hb hb2 B1 X1 X2 k0 k1 k2 k3 M1
  go_wp2_with fail
  refine (M2.out _).mono ?_
  rintro e w3 ⟨rfl, hb3⟩
  have hz3 := hb3.size
  have B3 := B2.trans (hb3.mono (by omega))
  have hT3 : TurnAt w3 b L (-1) 0 0 0 := Blk.below hT2 hb3 hz2
  clear j0 j1 j2 j3 hb3 hT2 B2 M2
  go_wp2_with fail
  refine (M3.out _ _ hT3).mono ?_
  rintro e w4 ⟨⟨v, rfl⟩, hT4, hg4⟩
  have B4 := below_only B3 hg4 hwb (by omega)
  clear hT3 hg4 B3 M3
  go_wp2_with fail
  go_loopw [11, 12] (fun s11 s12 wr => ∃ i r : Nat, i ≤ n ∧ i ≤ 60 ∧ s12 = .int .i64 i ∧ s11 = .int .u64 r ∧ Hid (r = pieces xs i) ∧ TurnAt wr b L 1 r r 0 ∧ Below w.heap.size w wr) (fun _ s12 _ => n - (intOf s12).toNat)
  case atStart => exact ⟨0, 0, by omega, by omega, rfl, rfl, rfl, hT4, B4⟩
  case round =>
    obtain ⟨i, r, hin, hi60, rfl, rfl, HR, hT, hB⟩ := hrel
    clear hT4 B4
    have hzr := hB.size
    have hle := HLE.out i hin
    rw [← HR.out] at hle
    have rb : r ≤ 10000000 := by omega
    clear hle
    by_cases hgo : i < n ∧ i < 60
    · obtain ⟨hlt, h60⟩ := hgo
      have z1 : decide ((i : Int) < (n : Int)) = true := decide_eq_true (by omega)
      have z2 : decide (i < n) = true := decide_eq_true hlt
      have z3 : decide ((i : Int) < 60) = true := decide_eq_true (by omega)
      have z4 : decide (i < 60) = true := decide_eq_true h60
      have hkx : i < xs.length := by rw [← HL.out]; exact hlt
      obtain ⟨b0, off, rfl, hbB, hc⟩ := hA.at_ (by omega)
      have hcell := (hB.cell (p := ⟨b0, off + i, none⟩) hbB).trans (hc i hkx)
      have hx1 := HX.out i hkx
      have HR2 : Hid (r + xs.getD i 0 = pieces xs (i + 1)) := Lib.hid (by rw [HR.out]; rfl)
      have i0 : (0 : Int) ≤ (i : Int) := Int.natCast_nonneg _
      have i1 : (i : Int) < (n : Int) := by omega
      clear hc hA HR
      generalize xs.getD i 0 = y at *
      obtain ⟨r2, hr2⟩ : ∃ r2, r2 = r + y := ⟨_, rfl⟩
      have er : (r : Int) + (y : Int) = (r2 : Int) := by omega
      have rb2 : r2 < 18446744073709551616 := by omega
      have N4 := Lib.hid fun W h => M4.out b r y W h hx1 rb
      rw [← hr2] at N4 HR2
      obtain ⟨D, hD⟩ : ∃ D, D = decide (z ≤ r2) := ⟨_, rfl⟩
      rw [← hD] at N4
      have q1 : decide ((z : Int) ≤ (r2 : Int)) = D := by rw [hD]; simp
      have q2 : decide (z ≤ r2) = D := hD.symm
      have q3 : (D != D) = false := by simp
      have q4 : ((r2 : Int) != (r2 : Int)) = false := by simp
      clear hr2 hD
      go_wp2_with fail
      refine (N4.out _ hT).mono ?_
      rintro e w5 ⟨rfl, hT5, hg5⟩
      have hB5 := below_only hB hg5 hwb hzr
      have hcell5 := (World.cell?_of_block (hg5.block b0 (by omega) (by simp; omega)) : w5.cell? ⟨b0, off + i, none⟩ = _).trans hcell
      clear hg5 hB hT hcell
      go_wp2_with fail
      refine (tran_any _ _ _ _ _ _ _ hT5).mono ?_
      rintro e w6 ⟨rfl, rfl⟩
      go_wp2_with fail
      go_roundw
      case rel => exact ⟨i + 1, r2, by omega, by omega, by go_num, rfl, HR2, hT5, hB5⟩
      case measure => simp [intOf]; omega
    · have hex : (decide ((i : Int) < (n : Int)) = true ∧ decide (i < n) = true ∧ decide ((i : Int) < 60) = false ∧ decide (i < 60) = false) ∨ (decide ((i : Int) < (n : Int)) = false ∧ decide (i < n) = false) := by
        by_cases hlt : i < n
        · left; exact ⟨decide_eq_true (by omega), decide_eq_true hlt, decide_eq_false (by omega), decide_eq_false (by omega)⟩
        · right; exact ⟨decide_eq_false (by omega), decide_eq_false hlt⟩
      have q4 : ((r : Int) == (r : Int)) = true := by simp
      have N5 := Lib.hid fun W h => M5.out b r W h
      rw [show taskOf 1 = 1 from rfl, show ranOf 1 1 r = r from rfl] at N5
      have N6 := Lib.hid fun W h => M6.out b r W h
      rw [show taskOf 2 = 2 from rfl, show ranOf 1 2 r = 0 from rfl] at N6
      have N7 := Lib.hid fun W h => M7.out b r W h rb
      clear hgo HLE HR
      rcases hex with ⟨z1, z2, z3, z4⟩ | ⟨z1, z2⟩
      all_goals
        go_wp2_with fail
        refine (N5.out _ hT).mono ?_
        rintro e w5 ⟨⟨v5, rfl⟩, hT5, hg5⟩
        have hB5 := below_only hB hg5 hwb hzr
        have hz5 := hB5.size
        clear hg5 hB hT
        go_wp2_with fail
        refine (tran_any _ _ _ _ _ _ _ hT5).mono ?_
        rintro e w6 ⟨rfl, rfl⟩
        go_wp2_with fail
        refine (N6.out _ hT5).mono ?_
        rintro e w6 ⟨⟨v6, rfl⟩, hT6, hg6⟩
        have hB6 := below_only hB5 hg6 hwb hz5
        have hz6 := hB6.size
        clear hg6 hB5 hT5
        go_wp2_with fail
        refine (tran_any _ _ _ _ _ _ _ hT6).mono ?_
        rintro e w7 ⟨rfl, rfl⟩
        go_wp2_with fail
        refine (N7.out _ hT6).mono ?_
        rintro e w7 ⟨rfl, hT7, hg7⟩
        have hB7 := below_only hB6 hg7 hwb hz6
        go_wp2_with fail
        go_ret
        exact ⟨rfl, hB7⟩
end turnDue

end Go.Proofs.Ytkemhcokkaanfaa
