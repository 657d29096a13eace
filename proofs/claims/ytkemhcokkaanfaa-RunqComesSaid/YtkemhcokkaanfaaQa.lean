/-
  A queue that is new since some time; dolelaw08.awake.
-/
import Derived.Test.YtkemhcokkaanfaaQ8
import Derived.Test.YtkemhcokkaanfaaQ9
namespace Go.Proofs.Ytkemhcokkaanfaa
open Go.RowKit Go.Maps

/-- a queue whose blocks are all new since w0 -/
structure QNew (w0 w : World) (q : Nat) (X : QS) (K : Int) : Prop where
  ex : ∃ F, QAt w q F X K ∧ Below w0.heap.size w0 w ∧ ∀ b, b ∈ F → w0.heap.size ≤ b
section
variable {w0 w w' : World} {q : Nat} {X X' : QS} {K K' : Int}
theorem QNew.ok (h : QNew w0 w q X K) : X.ok := by
  obtain ⟨F, h1, _⟩ := h.ex
  exact h1.ok
theorem QNew.base (h : QNew w0 w q X K) : Below w0.heap.size w0 w := by
  obtain ⟨F, _, h2, _⟩ := h.ex
  exact h2
theorem QNew.below (h : QNew w0 w q X K) (hb : Below w.heap.size w w') : QNew w0 w' q X K := by
  obtain ⟨F, h1, h2, h3⟩ := h.ex
  exact ⟨F, h1.below hb, h2.trans (hb.mono h2.size), h3⟩
theorem QNew.turned (h : QNew w0 w q X K) (k : ∀ F, QAt w q F X K → ∃ F', QTurned w F q X' K' w' F') : QNew w0 w' q X' K' := by
  obtain ⟨F, h1, h2, h3⟩ := h.ex
  obtain ⟨F', hT⟩ := k F h1
  exact ⟨F', hT.at_, Below.turns h2 hT.turns h3 h2.size, fun b hb => by
    rcases hT.sub b hb with e | e
    · exact h3 b e
    · exact Nat.le_trans h2.size e⟩
theorem QNew.of {F F' : List Nat} (_h1 : QAt w q F X K) (h2 : Below w0.heap.size w0 w) (h3 : ∀ b, b ∈ F → w0.heap.size ≤ b) (hT : QTurned w F q X' K' w' F') : QNew w0 w' q X' K' :=
  ⟨F', hT.at_, Below.turns h2 hT.turns h3 h2.size, fun b hb => by
    rcases hT.sub b hb with e | e
    · exact h3 b e
    · exact Nat.le_trans h2.size e⟩
theorem QNew.k1 (h : QNew w0 w q X K) : 1 ≤ K := by
  obtain ⟨F, h1, _⟩ := h.ex
  obtain ⟨bm, bt, S, g, hM, _⟩ := h1.ex
  exact hM.k1
theorem QNew.mono (h : QNew w0 w q X K) (hK : K ≤ K') (h2 : K' ≤ 1000000000000000) : QNew w0 w q X K' := by
  obtain ⟨F, h1, h3⟩ := h.ex
  exact ⟨F, h1.mono hK h2, h3⟩
theorem qn_new (w : World) : Calls Try.prog 31 #[] w fun e w' => ∃ q, e = .returned (.pointer (some ⟨q, 0, none⟩)) ∧ Hid (QNew w w' q ⟨[], -1, 0, false⟩ 1 ∧ w.heap.size ≤ q) :=
  (qnew_any w).mono fun e w' hp => by
    obtain ⟨q, F, he, hQ, hb, hq, hF⟩ := hp
    exact ⟨q, he, ⟨F, hQ, hb, hF⟩, hq⟩
theorem qn_put (h : QNew w0 w q X K) (hK : K + 1000 ≤ 1000000000000000) (e : En) (i1 : -9223372036854775808 ≤ e.id) (i2 : e.id ≤ 9223372036854775807) (v1 : -9223372036854775808 ≤ e.v) (v2 : e.v ≤ 9223372036854775807) (w2 : e.wt < 18446744073709551616) (r2 : e.rem < 18446744073709551616) :
    Calls Try.prog 32 #[.pointer (some ⟨q, 0, none⟩), enV e] w fun r w' => r = .returned (.int .i64 (putC X e)) ∧ Hid (QNew w0 w' q (putQ X e) (K + 1000)) := by
  obtain ⟨F, h1, h2, h3⟩ := h.ex
  refine (qput_any h1 hK e i1 i2 v1 v2 w2 r2).mono fun r w' hp => ?_
  obtain ⟨F', hr, hT⟩ := hp
  exact ⟨hr, QNew.of h1 h2 h3 hT.out⟩
theorem qn_drop (h : QNew w0 w q X K) (hK : K + 1000 ≤ 1000000000000000) (i : Int) (i1 : -9223372036854775808 ≤ i) (i2 : i ≤ 9223372036854775807) :
    Calls Try.prog 36 #[.pointer (some ⟨q, 0, none⟩), .int .i64 i] w fun r w' => r = .returned (dropV (X.get i)) ∧ Hid (QNew w0 w' q (dropQ X i) (K + 1000)) := by
  obtain ⟨F, h1, h2, h3⟩ := h.ex
  refine (qdrop_any h1 hK i i1 i2).mono fun r w' hp => ?_
  obtain ⟨F', hr, hT⟩ := hp
  exact ⟨hr, QNew.of h1 h2 h3 hT.out⟩
theorem qn_weigh (h : QNew w0 w q X K) (i : Int) (i1 : -9223372036854775808 ≤ i) (i2 : i ≤ 9223372036854775807) (wn : Nat) (hwn : wn < 18446744073709551616) :
    Calls Try.prog 63 #[.pointer (some ⟨q, 0, none⟩), .int .i64 i, .int .u64 wn] w fun r w' => r = .returned (.int .i64 (weighC X i wn)) ∧ Hid (QNew w0 w' q (weighQ X i wn) K) := by
  obtain ⟨F, h1, h2, h3⟩ := h.ex
  refine (qweigh_any h1 i i1 i2 wn hwn).mono fun r w' hp => ?_
  obtain ⟨F', hr, hT⟩ := hp
  exact ⟨hr, QNew.of h1 h2 h3 hT.out⟩
theorem qn_charge (h : QNew w0 w q X K) (hK : K + 1000 ≤ 1000000000000000) (ns : Nat) (hns : ns < 18446744073709551616) :
    Calls Try.prog 34 #[.pointer (some ⟨q, 0, none⟩), .int .u64 ns] w fun r w' => r = .returned (.int .i64 (chargeC X ns)) ∧ Hid (QNew w0 w' q (chargeQ X ns) (K + 1000)) := by
  obtain ⟨F, h1, h2, h3⟩ := h.ex
  refine (qcharge_any h1 hK ns hns).mono fun r w' hp => ?_
  obtain ⟨F', hr, hT⟩ := hp
  exact ⟨hr, QNew.of h1 h2 h3 hT.out⟩
theorem qn_pick (h : QNew w0 w q X K) (gran : Int) (hg1 : -9223372036854775808 ≤ gran) (hg2 : gran ≤ 9223372036854775807) :
    Calls Try.prog 44 #[.pointer (some ⟨q, 0, none⟩), .int .i64 gran] w fun e w' => e = .returned (.int .i64 (X.pickI gran)) ∧ Hid (QNew w0 w' q (pickQ X gran) K) := by
  obtain ⟨F, h1, h2, h3⟩ := h.ex
  exact (qpick_any h1 gran hg1 hg2).mono fun r w' hp => ⟨hp.1, QNew.of h1 h2 h3 hp.2.out⟩
theorem qn_yield (h : QNew w0 w q X K) (gran : Int) (hg1 : -9223372036854775808 ≤ gran) (hg2 : gran ≤ 9223372036854775807) :
    Calls Try.prog 45 #[.pointer (some ⟨q, 0, none⟩), .int .i64 gran] w fun e w' => e = .returned (.int .i64 (X.yieldI gran)) ∧ Hid (QNew w0 w' q (yieldQ X gran) K) := by
  obtain ⟨F, h1, h2, h3⟩ := h.ex
  exact (qyield_any h1 gran hg1 hg2).mono fun r w' hp => ⟨hp.1, QNew.of h1 h2 h3 hp.2.out⟩
theorem qn_ents (h : QNew w0 w q X K) :
    Calls Try.prog 33 #[.pointer (some ⟨q, 0, none⟩)] w fun r w' => ∃ v, r = .returned v ∧ Hid (w'.ownsRow w.heap.size 52 4 v X.ents.length (X.ents.flatMap ecl) ∧ Below w.heap.size w w' ∧ QNew w0 w' q X K) := by
  obtain ⟨F, h1, h2, h3⟩ := h.ex
  refine (qents_any h1).mono fun r w' hp => ?_
  obtain ⟨v, hr, hO⟩ := hp
  exact ⟨v, hr, hO.out.1, hO.out.2, h.below hO.out.2⟩
theorem qn_cur (h : QNew w0 w q X K) : Calls Try.prog 69 #[.pointer (some ⟨q, 0, none⟩)] w fun e w' => e = .returned (.int .i64 X.cur) ∧ w = w' := by
  obtain ⟨F, h1, _⟩ := h.ex
  exact qcur_any h1
theorem qn_min (h : QNew w0 w q X K) : Calls Try.prog 35 #[.pointer (some ⟨q, 0, none⟩)] w fun e w' => e = .returned (.int .i64 X.mn) ∧ w = w' := by
  obtain ⟨F, h1, _⟩ := h.ex
  exact qmin_any h1
theorem qn_load (h : QNew w0 w q X K) : Calls Try.prog 47 #[.pointer (some ⟨q, 0, none⟩)] w fun e w' => e = .returned (.int .u64 (loadL X.L : Nat)) ∧ w = w' := by
  obtain ⟨F, h1, _⟩ := h.ex
  exact qload_any h1
theorem qn_flag (h : QNew w0 w q X K) : Calls Try.prog 70 #[.pointer (some ⟨q, 0, none⟩)] w fun e w' => e = .returned (.bool X.over) ∧ w = w' := by
  obtain ⟨F, h1, _⟩ := h.ex
  exact qflag_any h1
end

def aw0 : QS := ⟨[], -1, 0, false⟩
def aw1 : QS := ⟨[⟨1, 1024, 0, 0⟩], -1, 0, false⟩
def aw2 : QS := ⟨[⟨1, 1024, 0, 0⟩, ⟨2, 1024, 0, 0⟩], -1, 0, false⟩
def aw3 : QS := ⟨[⟨1, 1024, 0, 0⟩, ⟨2, 1024, 0, 0⟩], 1, 0, false⟩
def aw4 : QS := ⟨[⟨1, 1024, 5, 0⟩, ⟨2, 1024, 0, 0⟩], 1, 0, false⟩
def aw5 : QS := ⟨[⟨1, 1024, 5, 0⟩, ⟨2, 1024, 0, 0⟩], 2, 0, false⟩
theorem aw_1 : putQ aw0 ⟨1, 1024, 0, 0⟩ = aw1 ∧ putC aw0 ⟨1, 1024, 0, 0⟩ = 0 := ⟨by kernel_rfl, by kernel_rfl⟩
theorem aw_2 : putQ aw1 ⟨2, 1024, 0, 0⟩ = aw2 ∧ putC aw1 ⟨2, 1024, 0, 0⟩ = 0 := ⟨by kernel_rfl, by kernel_rfl⟩
theorem aw_3 : pickQ aw2 0 = aw3 ∧ aw2.pickI 0 = 1 := ⟨by kernel_rfl, by kernel_rfl⟩
theorem aw_4 : chargeQ aw3 5 = aw4 ∧ chargeC aw3 5 = 0 := ⟨by kernel_rfl, by kernel_rfl⟩
theorem aw_5 : pickQ aw4 5 = aw4 ∧ aw4.pickI 5 = 1 := ⟨by kernel_rfl, by kernel_rfl⟩
theorem aw_6 : pickQ aw4 0 = aw5 ∧ aw4.pickI 0 = 2 := ⟨by kernel_rfl, by kernel_rfl⟩

set_option maxRecDepth 100000 in
set_option maxHeartbeats 8000000 in
theorem awake08 (w : World) : Calls Try.prog 30 #[] w fun e w' => e = .returned (.bool true) ∧ Below w.heap.size w w' := by
  go_enter Try.func30, Try.ntmps30
  go_wp2_with fail
  refine (qn_new w).mono ?_
  rintro e w1 ⟨q, rfl, H1⟩
  go_wp2_with fail
  have M := qn_put (e := ⟨1, 1024, 0, 0⟩) (show QNew w w1 q aw0 1 from H1.out.1) (by decide) (by decide) (by decide) (by decide) (by decide) (by decide) (by decide)
  rw [aw_1.1, aw_1.2] at M
  have M := Lib.hid M
  refine M.out.mono ?_
  rintro e w2 ⟨rfl, H2⟩
  clear M
  go_wp2_with fail
  have M := qn_put (e := ⟨2, 1024, 0, 0⟩) H2.out (by decide) (by decide) (by decide) (by decide) (by decide) (by decide) (by decide)
  rw [aw_2.1, aw_2.2] at M
  have M := Lib.hid M
  refine M.out.mono ?_
  rintro e w3 ⟨rfl, H3⟩
  clear M
  go_wp2_with fail
  have M := qn_pick H3.out 0 (by decide) (by decide)
  rw [aw_3.1, aw_3.2] at M
  have M := Lib.hid M
  refine M.out.mono ?_
  rintro e w4 ⟨rfl, H4⟩
  clear M
  go_wp2_with fail
  have M := qn_charge H4.out (by decide) 5 (by decide)
  rw [aw_4.1, aw_4.2] at M
  have M := Lib.hid M
  refine M.out.mono ?_
  rintro e w5 ⟨rfl, H5⟩
  clear M
  go_wp2_with fail
  have M := qn_pick H5.out 5 (by decide) (by decide)
  rw [aw_5.1, aw_5.2] at M
  have M := Lib.hid M
  refine M.out.mono ?_
  rintro e w6 ⟨rfl, H6⟩
  clear M
  go_wp2_with fail
  have M := qn_pick H6.out 0 (by decide) (by decide)
  rw [aw_6.1, aw_6.2] at M
  have M := Lib.hid M
  refine M.out.mono ?_
  rintro e w7 ⟨rfl, H7⟩
  clear M
  have MC := Lib.hid (show Calls Try.prog 69 #[.pointer (some ⟨q, 0, none⟩)] w7 fun e w' => e = .returned (.int .i64 2) ∧ w7 = w' from qn_cur H7.out)
  have ML := Lib.hid (show Calls Try.prog 47 #[.pointer (some ⟨q, 0, none⟩)] w7 fun e w' => e = .returned (.int .u64 2048) ∧ w7 = w' from qn_load H7.out)
  go_wp2_with (first
    | (go_at_call 69; refine MC.out.mono ?_; rintro e w' ⟨rfl, rfl⟩)
    | (go_at_call 47; refine ML.out.mono ?_; rintro e w' ⟨rfl, rfl⟩))
  go_ret
  exact ⟨rfl, H7.out.base⟩

end Go.Proofs.Ytkemhcokkaanfaa
