/-
  doleref11.Split.
-/
import Derived.Test.YtnpjacfefocjnaaShare5
import Derived.Deep.RegionHeld3
import Derived.Deep.AppendLies
namespace Go.Proofs.Ytnpjacfefocjnaa
open Go.RowKit

set_option maxRecDepth 100000 in
set_option maxHeartbeats 3200000 in
theorem refSplit_any (w : World) (A : Option Addr) (xs : List Nat) (c s : Nat) (hA : U64s w w.heap.size A xs) (hx : Words xs) (hn : xs.length ≤ 100000) (hs : s < 18446744073709551616) :
    Calls Try.prog 63 #[.int .u64 s, .slice A xs.length c] w fun e w' =>
      ∃ v, e = .returned v ∧ w'.ownsRow w.heap.size 22 1 v (splitN s xs).length ((splitN s xs).map wv) ∧ Below w.heap.size w w' := by
  rw [split_len, ← told_all]
  obtain ⟨i0, hi, iz0, iz1, iz2⟩ := info_parts infoW
  have M1 := Lib.hid fun W (h : U64s W w.heap.size A xs) => refSum_any W w.heap.size A xs c h hx hn
  have ha := sat_lt xs.sum
  generalize sat xs.sum = a at *
  obtain ⟨n, hnx⟩ : ∃ n, n = xs.length := ⟨_, rfl⟩
  rw [← hnx] at M1
  rw [← hnx]
  rw [← hnx] at hn
  have HL := Lib.hid hnx
  clear hnx
  go_enter Try.func63, Try.ntmps63
  go_wp2_with fail
  go_loopw [5, 6] (fun v i wr => ∃ k : Nat, k ≤ n ∧ i = .int .i64 k ∧ wr.ownsRow w.heap.size 22 1 v k ((toldN s a xs k).map wv) ∧ Below w.heap.size w wr) (fun _ i _ => n - (intOf i).toNat)
  case atStart => exact ⟨0, Nat.zero_le _, rfl, World.ownsRow_nil _ _ _ _, Below.refl _ _⟩
  case round =>
    rename_i v _
    obtain ⟨k, hk, rfl, hown, hB⟩ := hrel
    have hzr := hB.size
    by_cases hlt : k < n
    · have z1 : decide ((k : Int) < (n : Int)) = true := decide_eq_true (by omega)
      have z2 : decide (k < n) = true := decide_eq_true hlt
      have hl : k < xs.length := by rw [← HL.out]; exact hlt
      have hx1 := hx k hl
      have hts := told_succ s a xs k hl
      have hAr := hA.keep hB
      have hAH := Lib.hid hAr
      rcases hA with h0 | ⟨b, off, rfl, hbB, hc⟩
      · rw [h0] at hl; simp at hl
      · have hcell := (hB.cell (p := ⟨b, off + k, none⟩) hbB).trans (hc k hl)
        clear hc hx
        have M2 := Lib.hid fun W => refWeight_any s (xs.getD k 0) a hs hx1 ha W
        generalize xs.getD k 0 = x at *
        have TS := Lib.hid hts
        clear hts hl hAr
        generalize wgtN s x a = r at *
        have i0' : (0 : Int) ≤ (k : Int) := Int.natCast_nonneg _
        have i1' : (k : Int) < (n : Int) := by omega
        go_wp2_with fail
        go_region_held3 (fun w' => w'.cell? ⟨b, off + k, none⟩ = some (.int .u64 (x : Int))) (first | go_keep | (rw [hgrow.cell_far _ (show b < _ by simp; omega) (fun h => absurd (hown.lt b h.symm).1 (by omega))]; assumption))
          (first
            | (go_at_call 103; refine (M1.out _ (by exact hAH.out)).mono ?_; rintro e w' ⟨rfl, rfl⟩)
            | (go_at_call 58; refine (M2.out _).mono ?_; rintro e w' ⟨rfl, rfl⟩)
            | (refine step_append_lies _ (by rfl) _ _ _ (by rfl) w.heap.size 22 i0 _ 1 8 Try.underlying47 hi iz0 iz1 iz2 rfl (by omega) _ k _ (by rfl) ((hown.alloc _).drew)
                ⟨wr.heap.size, 0, none⟩ 1 1 [.int .u64 r] (by rfl) (by rfl) (World.news_of_block (cs := #[.int .u64 r]) (t := 22) (fr := (0, 0)) (heap_alloc_new wr _)) (by simp [Value.oneCell'])
                (by omega) (by unfold maxLen; omega) (by omega) (by simp; omega) (wr.heap.size + 1) (by simp) ?_; intro gg cap w1 hown1 hgrow hat hlt1))
        have hB2 : Below w.heap.size w w1 := ((hB.alloc hzr _).drew).grown hgrow (by simp; omega) (fun j hj => (hown.lt j hj).1)
        have hown2 : w1.ownsRow w.heap.size 22 1 (.slice (some ⟨gg, 0, none⟩) (k + 1) cap) (k + 1) ((toldN s a xs (k + 1)).map wv) := by
          rw [TS.out, List.map_append]
          exact hown1
        clear hown1 hgrow hown hat
        go_wp2_with fail
        go_roundw
        case rel => exact ⟨k + 1, by omega, by go_num, hown2, hB2⟩
        case measure => simp [intOf]; omega
    · obtain rfl : k = n := by omega
      have z1 : decide ((k : Int) < (k : Int)) = false := decide_eq_false (by omega)
      go_wp2_with fail
      go_ret
      exact ⟨_, rfl, hown, hB⟩

end Go.Proofs.Ytnpjacfefocjnaa
