/-
  runq.Queue: near.
-/
import Derived.Test.YtkemhcokkaanfaaQ2
namespace Go.Proofs.Ytkemhcokkaanfaa
open Go.RowKit Go.Maps

set_option maxRecDepth 100000 in
set_option maxHeartbeats 4000000 in
theorem qnear_any (a b : Nat) (x y : En) (gran : Int) (_hg1 : -9223372036854775808 ≤ gran) (_hg2 : gran ≤ 9223372036854775807) (hy1 : -9223372036854775808 ≤ y.v) (hy2 : y.v ≤ 9223372036854775807) (w : World) (ha : Blk w a (ecells x) 52) (hb : Blk w b (ecells y) 52) :
    Calls Try.prog 95 #[.pointer (some ⟨a, 0, none⟩), .pointer (some ⟨b, 0, none⟩), .int .i64 gran] w fun r w' => r = .returned (.bool (nearB x.v y.v gran)) ∧ Below w.heap.size w w' := by
  have hc := holdZ_credit gran
  have a2 : w.cell? ⟨a, 2, none⟩ = some (.int .i64 x.v) := Blk.cell ha 2
  have b2 : w.cell? ⟨b, 2, none⟩ = some (.int .i64 y.v) := Blk.cell hb 2
  have MH := Lib.hid fun W => fhold_any gran 0 1099511627776 W
  obtain ⟨c, hcc⟩ : ∃ c, c = holdZ gran 0 1099511627776 := ⟨_, rfl⟩
  rw [← hcc] at MH hc
  obtain ⟨s, hs⟩ : ∃ s, s = satZ y.v c := ⟨_, rfl⟩
  have MS := Lib.hid fun W (hW : Below w.heap.size w W) => (fsat_any y.v c hy1 hy2 (by omega) (by omega) W).mono (R' := fun e w5 => e = .returned (.int .i64 s) ∧ (w5.cell? ⟨a, 2, none⟩ = some (.int .i64 x.v) ∧ w5.cell? ⟨b, 2, none⟩ = some (.int .i64 y.v)) ∧ Hid (Below w.heap.size w w5)) fun e w5 hp => by
    obtain ⟨rfl, hbw⟩ := hp
    have hB := hW.trans (hbw.mono hW.size)
    exact ⟨by rw [hs], ⟨(hB.cell (p := ⟨a, 2, none⟩) ha.lt).trans a2, (hB.cell (p := ⟨b, 2, none⟩) hb.lt).trans b2⟩, hB⟩
  have HE : Hid (nearB x.v y.v gran = decide (x.v ≤ s)) := Lib.hid (by rw [hs, hcc]; rfl)
  rw [HE.out]
  clear hcc hs ha hb HE
  go_enter Try.func95, Try.ntmps95
  go_wp2_with fail
  go_region_with (first | (go_at_call 117; refine (MH.out _).mono ?_; rintro e w5 ⟨rfl, rfl⟩) | (go_at_call 92; refine (MS.out _ (by first | exact Below.refl _ _ | exact (Below.refl _ _).drew)).mono ?_; rintro e w5 ⟨rfl, ⟨x3, x4⟩, hB5⟩))
  all_goals
    go_wp2_with fail
    go_ret
    exact ⟨rfl, hB5.out⟩

end Go.Proofs.Ytkemhcokkaanfaa
