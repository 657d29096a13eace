/-
  dolelaw08.set: a new bench.
-/
import Derived.Test.YtkemhcokkaanfaaBf
namespace Go.Proofs.Ytkemhcokkaanfaa
open Go.RowKit Go.Maps

def own0 (k : Nat) : Nat → En := fun i => if i < k then ⟨i, 1024, 0, 0⟩ else En.nil
theorem own0_succ (k : Nat) : updO (own0 k) k ⟨k, 1024, 0, 0⟩ = own0 (k + 1) := by
  funext i
  unfold updO own0
  by_cases h : i = k
  · rw [if_pos h, if_pos (by omega), h]
  · rw [if_neg h]
    by_cases h2 : i < k
    · rw [if_pos h2, if_pos (by omega)]
    · rw [if_neg h2, if_neg (by omega)]

set_option maxRecDepth 100000 in
set_option maxHeartbeats 8000000 in
theorem set_any (c g t : Nat) (hc : c < 65536) (hg : g < 65536) (ht : t < 65536) (w : World) :
    Calls Try.prog 71 #[.int .u16 c, .int .u16 g, .int .u16 t] w fun e w' => ∃ p q, e = .returned (.pointer (some ⟨p, 0, none⟩)) ∧ Hid (BQ ⟨w, []⟩ w' p q aw0 1 (own0 8) c g (1 + t)) := by
  have e1 : IntKind.u64.wrap (1 + (t : Int)) = ((1 + t : Nat) : Int) := by rw [IntKind.wrap_u64]; omega
  go_enter Try.func71, Try.ntmps71
  go_wp2_with fail
  refine (qn_new w).mono ?_
  rintro r w1 ⟨q, rfl, H1⟩
  go_wp2_with fail
  have B0 : BQ ⟨w, []⟩ (w1.alloc (.cells #[.pointer (some ⟨q, 0, none⟩), .int .i64 0, .int .u64 0, .int .i64 0, .int .u64 0, .int .i64 0, .int .u64 0, .int .i64 0, .int .u64 0, .int .i64 0, .int .u64 0, .int .i64 0, .int .u64 0, .int .i64 0, .int .u64 0, .int .i64 0, .int .u64 0, .int .i64 0, .int .u64 0, .int .i64 0, .int .u64 0, .int .i64 0, .int .u64 0, .int .i64 0, .int .u64 0, .int .i64 0, .int .u64 0, .int .i64 0, .int .u64 0, .int .i64 0, .int .u64 0, .int .i64 0, .int .u64 0, .int .i64 c, .int .i64 g, .int .u64 ((1 + t : Nat) : Int)] 124)) w1.heap.size q aw0 1 (own0 0) c g (1 + t) := by
    have hn := Blk.new w1 #[.pointer (some ⟨q, 0, none⟩), .int .i64 0, .int .u64 0, .int .i64 0, .int .u64 0, .int .i64 0, .int .u64 0, .int .i64 0, .int .u64 0, .int .i64 0, .int .u64 0, .int .i64 0, .int .u64 0, .int .i64 0, .int .u64 0, .int .i64 0, .int .u64 0, .int .i64 0, .int .u64 0, .int .i64 0, .int .u64 0, .int .i64 0, .int .u64 0, .int .i64 0, .int .u64 0, .int .i64 0, .int .u64 0, .int .i64 0, .int .u64 0, .int .i64 0, .int .u64 0, .int .i64 0, .int .u64 0, .int .i64 c, .int .i64 g, .int .u64 ((1 + t : Nat) : Int)] 124
    have hq := H1.out.1.below ((Below.refl _ _).alloc (Nat.le_refl _) (.cells #[.pointer (some ⟨q, 0, none⟩), .int .i64 0, .int .u64 0, .int .i64 0, .int .u64 0, .int .i64 0, .int .u64 0, .int .i64 0, .int .u64 0, .int .i64 0, .int .u64 0, .int .i64 0, .int .u64 0, .int .i64 0, .int .u64 0, .int .i64 0, .int .u64 0, .int .i64 0, .int .u64 0, .int .i64 0, .int .u64 0, .int .i64 0, .int .u64 0, .int .i64 0, .int .u64 0, .int .i64 0, .int .u64 0, .int .i64 0, .int .u64 0, .int .i64 0, .int .u64 0, .int .i64 0, .int .u64 0, .int .i64 c, .int .i64 g, .int .u64 ((1 + t : Nat) : Int)] 124))
    refine ⟨hq.ex.imp fun F hF => ⟨hF.1, hF.2.1, hF.2.2, fun z hz => by simp at hz⟩, H1.out.1.base.size, ⟨⟨_, hn, rfl⟩, Blk.cell hn 0, fun i hi => ?_, Blk.cell hn 33, Blk.cell hn 34, Blk.cell hn 35⟩⟩
    rcases (show i = 0 ∨ i = 1 ∨ i = 2 ∨ i = 3 ∨ i = 4 ∨ i = 5 ∨ i = 6 ∨ i = 7 by omega) with rfl | rfl | rfl | rfl | rfl | rfl | rfl | rfl
    · exact ⟨Blk.cell hn 1, Blk.cell hn 2, Blk.cell hn 3, Blk.cell hn 4⟩
    · exact ⟨Blk.cell hn 5, Blk.cell hn 6, Blk.cell hn 7, Blk.cell hn 8⟩
    · exact ⟨Blk.cell hn 9, Blk.cell hn 10, Blk.cell hn 11, Blk.cell hn 12⟩
    · exact ⟨Blk.cell hn 13, Blk.cell hn 14, Blk.cell hn 15, Blk.cell hn 16⟩
    · exact ⟨Blk.cell hn 17, Blk.cell hn 18, Blk.cell hn 19, Blk.cell hn 20⟩
    · exact ⟨Blk.cell hn 21, Blk.cell hn 22, Blk.cell hn 23, Blk.cell hn 24⟩
    · exact ⟨Blk.cell hn 25, Blk.cell hn 26, Blk.cell hn 27, Blk.cell hn 28⟩
    · exact ⟨Blk.cell hn 29, Blk.cell hn 30, Blk.cell hn 31, Blk.cell hn 32⟩
  have B0 := Lib.hid B0
  obtain ⟨p, hp⟩ : ∃ p, p = w1.heap.size := ⟨_, rfl⟩
  rw [← hp] at B0 ⊢
  clear hp H1
  go_loopw [8] (fun s8 wr => ∃ k : Nat, k ≤ 8 ∧ s8 = .int .i64 k ∧ Hid (BQ ⟨w, []⟩ wr p q aw0 1 (own0 k) c g (1 + t))) (fun s8 _ => 8 - (intOf s8).toNat)
  case atStart => exact ⟨0, by omega, rfl, B0⟩
  case round =>
    obtain ⟨k, hk, rfl, HB⟩ := hrel
    clear B0
    by_cases hlt : k < 8
    · have z1 : decide ((k : Int) < 8) = true := decide_eq_true (by omega)
      have z2 : decide (k < 8) = true := decide_eq_true hlt
      have j0 : (0 : Int) ≤ (k : Int) := Int.natCast_nonneg _
      have j1 : (k : Int) < 8 := by omega
      have pf := HB.out.bench.frozen
      obtain ⟨x0, x1, x2, x3⟩ := HB.out.bench.own k hlt
      go_wp2_with fail
      go_roundw
      case rel => exact ⟨k + 1, by omega, by go_num, by
        have := HB.out.set_own hlt ⟨k, 1024, 0, 0⟩
        rw [own0_succ] at this
        exact this⟩
      case measure => simp [intOf]; omega
    · obtain rfl : k = 8 := by omega
      go_wp2_with fail
      go_ret
      exact ⟨p, rfl, q, HB⟩

end Go.Proofs.Ytkemhcokkaanfaa
