/-
  HierServes: what the task that runs is served, each group above it is, by its weight; nobody else goes on: whatever the terms, the pieces of work and the time.
-/
import Derived.Test.YtefekboacghnjaaMx
namespace Go.Proofs.Ytefekboacghnjaa
open Go.ChangeShapes Go.WideShapes Go.ChangeAt Go.RowKit Go.Deep Go.Maps

namespace hierServes
set_option maxRecDepth 100000 in
set_option maxHeartbeats 64000000 in
theorem walk (a b d : Nat) (A : Option Addr) (xs : List FW) (cc : Nat) (ns : Nat) (ha : a < 65536) (hb : b < 65536) (hd : d < 65536) (_hns : ns < 4294967296) (w : World) (hU : RowF w w.heap.size A xs) (hX : ∀ x ∈ xs, x.num) (hL : xs.length ≤ 9223372036854775807) :
    Calls Try.prog 6 #[termsV a b d, .slice A xs.length cc, .int .u32 ns] w fun e w' => e = .returned (.bool true) ∧ Below w.heap.size w w' := by
  have HU := Lib.hid hU
  have HX := Lib.hid hX
  clear hU hX
  obtain ⟨n, hn⟩ : ∃ n, n = xs.length := ⟨_, rfl⟩
  rw [← hn] at hL ⊢
  have HN := Lib.hid hn
  clear hn
  obtain ⟨tm, htm⟩ : ∃ tm, tm = ns % 100000000 := ⟨_, rfl⟩
  have f1 : ((ns : Nat) : Int).tmod 100000000 = (tm : Int) := by rw [Int.tmod_eq_emod_of_nonneg (Int.natCast_nonneg _)]; omega
  have htm2 : tm < 100000000 := by omega
  clear htm
  have MS := Lib.hid fun W => start_round a b d ha hb hd W
  obtain ⟨W1, hW1⟩ : ∃ W1, W1 = w.alloc (.cells #[.int .u16 (a : Nat), .int .u16 (b : Nat), .int .u16 (d : Nat)] 60) := ⟨_, rfl⟩
  have hb1 : Below w.heap.size w W1 := by rw [hW1]; exact (Below.refl _ _).alloc (Nat.le_refl _) _
  have hn0 : Blk W1 w.heap.size #[.int .u16 (a : Nat), .int .u16 (b : Nat), .int .u16 (d : Nat)] 60 := by rw [hW1]; exact Blk.new _ _ _
  go_enter Try.func6, Try.ntmps6
  go_wp2_with fail
  rw [← hW1]
  refine (awake20 W1).mono ?_
  rintro r w1 ⟨rfl, hb2⟩
  have hn1 := hn0.below hb2 hn0.lt
  have y0 : w1.cell? ⟨w.heap.size, 0, none⟩ = some (.int .u16 (a : Nat)) := Blk.cell hn1 0
  have y1 : w1.cell? ⟨w.heap.size, 1, none⟩ = some (.int .u16 (b : Nat)) := Blk.cell hn1 1
  have y2 : w1.cell? ⟨w.heap.size, 2, none⟩ = some (.int .u16 (d : Nat)) := Blk.cell hn1 2
  have HB1 := Lib.hid (hb1.trans (hb2.mono hb1.size))
  clear hW1 hb1 hb2 hn0 hn1
  go_wp2_with fail
  refine (MS.out _).mono ?_
  rintro r w2 ⟨p, h, rfl, HS⟩
  clear y0 y1 y2 MS
  obtain ⟨t, ht⟩ : ∃ t, t = 1 + d := ⟨_, rfl⟩
  rw [← ht] at HS
  have ht2 : t ≤ 65536 := by omega
  have ht1 : 1 ≤ t := by omega
  clear ht
  have HTM : Hid (Terms (a : Int) (b : Int) t) := Lib.hid ⟨by omega, by omega, by omega, by omega, by omega, by omega⟩
  obtain ⟨E, hE⟩ : ∃ E : Int, E = 10 * ((b : Int) + 16 * (t : Int)) := ⟨_, rfl⟩
  have hE0 : 0 ≤ E := by omega
  have hE1 : E ≤ 12000000 := by omega
  have HE := Lib.hid hE
  clear hE
  go_wp2_with fail
  go_loopw [9] (fun s9 wr => ∃ (k : Nat) (X : FSt), k ≤ n ∧ k ≤ 60 ∧ s9 = .int .i64 k ∧ Hid (FRound w1 wr p h a b t k X ∧ NearF a b t ((k : Int) * E) X)) (fun s9 _ => n - (intOf s9).toNat)
  case atStart => exact ⟨0, _, by omega, by omega, rfl, HS.out, by rw [show ((0 : Nat) : Int) * E = 0 by simp]; exact start_near HTM.out⟩
  case round =>
    obtain ⟨k, X, hk, hk60, rfl, HB⟩ := hrel
    clear HS
    by_cases hgo : k < n ∧ k < 60
    · obtain ⟨hlt, h60⟩ := hgo
      have hk1 : k < xs.length := by rw [← HN.out]; exact hlt
      obtain ⟨b5, off, rfl, hb5, hcc⟩ := HU.out.at_ (by omega)
      have hBw := HB1.out.trans (HB.out.1.at_.base.mono HB1.out.size)
      obtain ⟨x0, x1, x2, x3, x4⟩ := (hcc k hk1).below hBw hb5
      have hxn := HX.out (xs.getD k FW.nil) (by rw [getD_fw xs hk1]; exact List.getElem_mem _)
      clear hcc hBw hk1
      generalize xs.getD k FW.nil = x at *
      have MW := Lib.hid (HB.out.1.work (by omega) (by omega) (by omega) ht2 x hxn)
      have hkE : (k : Int) * E ≤ 60 * E := Int.mul_le_mul_of_nonneg_right (by omega) hE0
      have hk1E : ((k + 1 : Nat) : Int) * E = (k : Int) * E + E := by rw [Int.natCast_add, Int.add_mul]; omega
      have HR : Hid (NearF a b t (((k + 1 : Nat) : Int) * E) (workF a t X x)) := by
        have := HB.out.2.work HTM.out HB.out.1.ok (by rw [← HE.out]; omega) x
        rw [← HE.out, ← hk1E] at this
        exact Lib.hid this
      clear hkE hk1E
      generalize workF a t X x = X2 at *
      have z1 : decide ((k : Int) < (n : Int)) = true := decide_eq_true (by omega)
      have z2 : decide (k < n) = true := decide_eq_true hlt
      have z3 : decide ((k : Int) < 60) = true := decide_eq_true (by omega)
      have z4 : decide (k < 60) = true := decide_eq_true h60
      have j0 : (0 : Int) ≤ (k : Int) := Int.natCast_nonneg _
      have j1 : (k : Int) < (n : Int) := by omega
      clear hxn
      go_wp2_with fail
      refine MW.out.mono ?_
      rintro r w3 ⟨rfl, H3⟩
      clear x0 x1 x2 x3 x4 MW
      go_wp2_with fail
      go_roundw
      case rel => exact ⟨k + 1, X2, by omega, by omega, by go_num, H3.out, HR.out⟩
      case measure => simp [intOf]; omega
    · have hend : (decide ((k : Int) < (n : Int)) && decide ((k : Int) < 60)) = false := by
        rw [Bool.and_eq_false_iff, decide_eq_false_iff_not, decide_eq_false_iff_not]
        omega
      have hkE : (k : Int) * E ≤ 60 * E := Int.mul_le_mul_of_nonneg_right (by omega) hE0
      have HSM := Lib.hid (HB.out.2.small (by omega) (by omega) ht2 (by omega))
      have HS1 := Lib.hid (HB.out.1.ok.serves tm (by omega) HSM.out)
      have q0 := HB.out.1.at_.farm.h0
      have MR := HB.out.1.run
      obtain ⟨rn, hrn⟩ : ∃ rn, rn = runI 9 X.S := ⟨_, rfl⟩
      rw [← hrn] at MR
      have HRN := Lib.hid hrn
      replace MR := Lib.hid MR
      clear hkE hrn
      rcases (show (n ≤ k ∧ decide ((k : Int) < (n : Int)) = false) ∨ (k < n ∧ decide ((k : Int) < (n : Int)) = true ∧ decide ((k : Int) < 60) = false) by
        by_cases hkn : k < n
        · exact .inr ⟨hkn, decide_eq_true (by omega), decide_eq_false (by omega)⟩
        · exact .inl ⟨by omega, decide_eq_false (by omega)⟩) with ⟨hkn, z1⟩ | ⟨hkn, z1, z3⟩
      all_goals
        clear hend hgo
        go_wp2_with fail
        refine MR.out.mono ?_
        rintro r w4 ⟨rfl, H4⟩
        clear q0 MR
        go_wp2_with fail
        obtain ⟨B, hB⟩ : ∃ B, B = w4.heap.size := ⟨_, rfl⟩
        rw [← hB]
        have HWB := Lib.hid hB
        clear hB
        go_loopw [12] (fun s12 wr => ∃ u : Nat, u ≤ 6 ∧ s12 = .int .i64 u ∧ Hid (Below w4.heap.size w4 wr ∧ WasAt wr B X u)) (fun s12 _ => 6 - (intOf s12).toNat)
        case atStart => exact ⟨0, by omega, rfl, (Below.refl _ _).alloc (Nat.le_refl _) _, ⟨_, by rw [HWB.out]; exact Blk.new _ _ _, rfl⟩, fun i hi => absurd hi (Nat.not_lt_zero _)⟩
        case round =>
          obtain ⟨u, hu, rfl, HJ⟩ := hrel
          by_cases hu6 : u = 6
          · subst hu6
            have H5 := Lib.hid (H4.out.below HJ.out.1)
            have q0 := H5.out.at_.farm.h0
            have MC := H4.out.charge_far (by omega) HJ.out.1 (by have := HJ.out.2.lt; rw [← HWB.out]; exact this) tm (by omega)
            rcases HS1.out with hr | ⟨n0, hn0, hr, hr2, hall⟩
            · rw [if_pos hr] at MC
              obtain rfl : rn = -1 := HRN.out.trans hr
              replace MC := Lib.hid MC
              clear hr
              go_wp2_with fail
              refine MC.out.mono ?_
              rintro r w7 ⟨rfl, H7⟩
              go_wp2_with fail
              go_ret
              exact ⟨rfl, HB1.out.trans (H7.out.1.at_.base.mono HB1.out.size)⟩
            · have hne : ¬(runI 9 X.S = -1) := by rw [hr]; omega
              rw [if_neg hne] at MC
              obtain rfl : rn = (n0 : Int) := HRN.out.trans hr
              have hch : chargeH tm X.S = chargeF tm 9 X.S 0 := if_neg hne
              obtain ⟨X2, hX2⟩ : ∃ X2 : FSt, X2 = ⟨chargeH tm X.S, X.own, X.here⟩ := ⟨_, rfl⟩
              rw [← hX2] at MC
              have HX2 : Hid (runI 9 X2.S = (n0 : Int) ∧ ∀ u, u < 6 → (entsF X2 u).length = (entsF X u).length ∧ ∀ e, e ∈ entsF X u → mvE (wantT n0 u) tm e ∈ entsF X2 u) := Lib.hid (by
                rw [hX2, hch]
                exact ⟨hr2, hall⟩)
              replace MC := Lib.hid MC
              clear hr hr2 hall hne hch hX2
              have d0 : decide ((n0 : Int) < 0) = false := decide_eq_false (by omega)
              have d1 : decide ((7 : Int) < (n0 : Int)) = false := decide_eq_false (by omega)
              have d2 : decide (7 < n0) = false := decide_eq_false (by omega)
              go_wp2_with fail
              refine MC.out.mono ?_
              rintro r w7 ⟨rfl, H7⟩
              have HW7 : Hid (WasAt w7 B X 6) := Lib.hid (HJ.out.2.of H7.out.2.1 fun b2 h1 h2 => H7.out.2.2 b2 (by rw [← HWB.out]; exact h1) h2)
              clear q0 MC HS1
              go_wp2_with fail
              clear d0 d1 d2
              obtain ⟨B2, hB2⟩ : ∃ B2, B2 = w7.heap.size := ⟨_, rfl⟩
              rw [← hB2]
              have HWB2 := Lib.hid hB2
              clear hB2
              go_loopw [16] (fun s16 wr => ∃ u : Nat, u ≤ 6 ∧ s16 = .int .i64 u ∧ Hid (Below w7.heap.size w7 wr ∧ IntsAt wr B2 (fillA u))) (fun s16 _ => 6 - (intOf s16).toNat)
              case atStart => exact ⟨0, by omega, rfl, (Below.refl _ _).alloc (Nat.le_refl _) _, ⟨by rw [HWB2.out]; exact Blk.new _ _ _⟩⟩
              case round =>
                obtain ⟨u, hu, rfl, HI⟩ := hrel
                by_cases hu6 : u = 6
                · subst hu6
                  have HI6 : Hid (Below w7.heap.size w7 wr ∧ IntsAt wr B2 (wantA n0 0)) := Lib.hid ⟨HI.out.1, by have h6 := HI.out.2; rw [fill_six] at h6; exact h6⟩
                  have MH := Lib.hid fun W => home_any n0 hn0 W
                  obtain ⟨i0, hi0⟩ : ∃ i0, i0 = 2 * (n0 : Int) := ⟨_, rfl⟩
                  have e1 : IntKind.i64.wrap (2 * (n0 : Int)) = i0 := by rw [IntKind.wrap_i64]; omega
                  obtain ⟨g0, hg0⟩ : ∃ g0, g0 = homeN n0 := ⟨_, rfl⟩
                  rw [← hg0] at MH
                  have HG0 := Lib.hid (And.intro hi0 hg0)
                  clear hi0 hg0
                  go_wp2_with fail
                  refine (MH.out _).mono ?_
                  rintro r w9 ⟨rfl, hb9⟩
                  have HI9 : Hid (Below w7.heap.size w7 w9 ∧ IntsAt w9 B2 (wantA n0 0)) := Lib.hid ⟨HI6.out.1.trans (hb9.mono HI6.out.1.size), HI6.out.2.below hb9⟩
                  clear e1 MH hb9
                  go_wp2_with fail
                  go_loopw [17, 18] (fun s17 s18 wr => ∃ m : Nat, m ≤ 3 ∧ s17 = .int .i64 (idA n0 m) ∧ s18 = .int .i64 ((gA n0 m : Nat) : Int) ∧ Hid (Below w7.heap.size w7 wr ∧ IntsAt wr B2 (wantA n0 m) ∧ ∀ i, i < m → gA n0 i ≠ 0)) (fun _ s18 _ => (intOf s18).toNat)
                  case atStart => exact ⟨0, by omega, by rw [HG0.out.1]; rfl, by rw [HG0.out.2]; rfl, HI9.out.1, HI9.out.2, fun i hi => absurd hi (Nat.not_lt_zero _)⟩
                  case round =>
                    obtain ⟨m, hm3, rfl, rfl, HM⟩ := hrel
                    obtain ⟨gm, hgm⟩ : ∃ gm, gm = gA n0 m := ⟨_, rfl⟩
                    obtain ⟨im, him⟩ : ∃ im, im = idA n0 m := ⟨_, rfl⟩
                    have hg6 : gm < 6 := by rw [hgm]; exact gA_lt n0 m
                    have HGM := Lib.hid (And.intro hgm him)
                    rw [← hgm, ← him]
                    have v0 : (0 : Int) ≤ (gm : Int) := Int.natCast_nonneg _
                    have v1 : (gm : Int) < 6 := by omega
                    have v2 : decide (gm < 6) = true := decide_eq_true hg6
                    have b0 := HM.out.2.1.cell (i := gm) (by rw [wantA_len]; exact hg6)
                    have bf := HM.out.2.1.frozen
                    have HST : Hid (Below w7.heap.size w7 (wr.setCell ⟨B2, gm, none⟩ (.int .i64 im)) ∧ IntsAt (wr.setCell ⟨B2, gm, none⟩ (.int .i64 im)) B2 (wantA n0 (m + 1))) := Lib.hid ⟨HM.out.1.setCell (by rw [HWB2.out]; exact Nat.le_refl _) _, by
                      have h := HM.out.2.1.set gm im
                      rw [hgm, him] at h
                      rw [hgm, him]
                      exact h⟩
                    clear hgm him
                    by_cases hz : gm = 0
                    · have HZ := Lib.hid (fun (u : Nat) (hu : u < 6) => want_done n0 hn0 m hm3 (HGM.out.1.symm.trans hz) HM.out.2.2 u hu)
                      obtain ⟨l, hl⟩ : ∃ l, l = wantA n0 (m + 1) := ⟨_, rfl⟩
                      have hll : l.length = 6 := by rw [hl]; exact wantA_len n0 (m + 1)
                      rw [← hl] at HST HZ
                      have HLL := Lib.hid hll
                      clear hl hll
                      have z3 : ((gm : Int) == 0) = true := by rw [beq_iff_eq]; omega
                      have z4 : decide ((gm : Int) = 0) = true := decide_eq_true (by omega)
                      have z5 : decide (gm = 0) = true := decide_eq_true hz
                      have z6 : (gm == 0) = true := by rw [beq_iff_eq]; exact hz
                      clear hz
                      go_wp2_with fail
                      go_loopw [19] (fun s19 wr => ∃ u : Nat, u ≤ 6 ∧ s19 = .int .i64 u ∧ Hid (Below w7.heap.size w7 wr ∧ IntsAt wr B2 l)) (fun s19 _ => 6 - (intOf s19).toNat)
                      case atStart => exact ⟨0, by omega, rfl, HST.out⟩
                      case round =>
                        obtain ⟨u, hu, rfl, HK⟩ := hrel
                        have a7 := H7.out.1.below HK.out.1
                        have q0 := a7.at_.farm.h0
                        by_cases hu6 : u = 6
                        · subst hu6
                          have MR := a7.run
                          rw [HX2.out.1] at MR
                          replace MR := Lib.hid MR
                          clear a7
                          go_wp2_with fail
                          refine MR.out.mono ?_
                          rintro r w10 ⟨rfl, H10⟩
                          go_wp2_with fail
                          go_ret
                          exact ⟨rfl, HB1.out.trans (H10.out.at_.base.mono HB1.out.size)⟩
                        · have hlt6 : u < 6 := by omega
                          have u1 : decide ((u : Int) ≤ 5) = true := decide_eq_true (by omega)
                          have u2 : (u : Int) ≤ 5 := by omega
                          have u3 : u ≤ 5 := by omega
                          have v0 : (0 : Int) ≤ (u : Int) := Int.natCast_nonneg _
                          have v1 : (u : Int) < 6 := by omega
                          have v2 : decide (u < 6) = true := decide_eq_true hlt6
                          have aw := HW7.out.below HK.out.1
                          obtain ⟨A5, c5, y5, hrow5⟩ := aw.rowE (i := u) hlt6
                          have b2 := HK.out.2.cell (i := u) (by rw [HLL.out]; exact hlt6)
                          rw [HZ.out u hlt6] at b2
                          obtain ⟨wt, hwt⟩ : ∃ wt, wt = wantT n0 u := ⟨_, rfl⟩
                          have hall2 := HX2.out.2 u hlt6
                          rw [← hwt] at b2 hall2
                          have MQ : Hid (∀ W, Below wr.heap.size wr W → Calls Try.prog 37 #[.pointer (some ⟨h, 0, none⟩), .int .i64 (u : Int)] W fun r w' => ∃ A4 c4, r = .returned (.slice A4 (entsF X2 u).length c4) ∧ Below W.heap.size W w' ∧ Hid (RowE w' w'.heap.size A4 (entsF X2 u))) := Lib.hid fun W hW => ((a7.below hW).queue hlt6).mono fun r w' hp => by
                            obtain ⟨A4, c4, hr, hO⟩ := hp
                            exact ⟨A4, c4, hr, hO.out.2.2, hO.out.1⟩
                          have MV : Hid (∀ (A4 : Option Addr) (c4 : Nat) (W : World), Below wr.heap.size wr W → Hid (RowE W W.heap.size A4 (entsF X2 u)) → Calls Try.prog 41 #[.slice A5 (entsF X u).length c5, .slice A4 (entsF X2 u).length c4, .int .i64 wt, .int .u64 (tm : Nat)] W fun r w' => r = .returned (.bool true) ∧ Below W.heap.size W w') := Lib.hid fun A4 c4 W hW hr4 =>
                            H4.out.ok.moved tm (by omega) HSM.out hlt6 hall2.1 hall2.2 A5 A4 c5 c4 W ((hrow5.below hW).mono hW.size) hr4.out
                          obtain ⟨el, hel⟩ : ∃ el, el = (entsF X u).length := ⟨_, rfl⟩
                          obtain ⟨el2, hel2⟩ : ∃ el2, el2 = (entsF X2 u).length := ⟨_, rfl⟩
                          rw [← hel] at MV y5
                          rw [← hel2] at MV MQ
                          have SO := Lib.hid fun W (hW : Below wr.heap.size wr W) => (⟨hW, (hW.cell (p := ⟨p, 0, none⟩) a7.at_.farm.lt).trans q0, (hW.cell (p := ⟨B, u, none⟩) aw.lt).trans y5, (hW.cell (p := ⟨B2, u, none⟩) HK.out.2.blk.lt).trans b2⟩ :
                            Below wr.heap.size wr W ∧ W.cell? ⟨p, 0, none⟩ = some (.pointer (some ⟨h, 0, none⟩)) ∧ W.cell? ⟨B, u, none⟩ = some (.slice A5 el c5) ∧ W.cell? ⟨B2, u, none⟩ = some (.int .i64 wt))
                          have hz7 := Nat.le_refl wr.heap.size
                          have HU := Lib.hid hlt6
                          clear a7 aw hrow5 hall2 hwt hel hel2 hu6 hlt6
                          go_wp2_with fail
                          go_region_held3 (fun W => Below wr.heap.size wr W ∧ W.cell? ⟨p, 0, none⟩ = some (.pointer (some ⟨h, 0, none⟩)) ∧ W.cell? ⟨B, u, none⟩ = some (.slice A5 el c5) ∧ W.cell? ⟨B2, u, none⟩ = some (.int .i64 wt))
                            (first | exact SO.out _ (kp_drew (by assumption)) | exact SO.out _ (kp_call (by assumption) (by assumption) hz7) | exact SO.out _ (kp_same (by assumption)) | exact SO.out _ (kp_start _ _))
                            (first
                              | (go_at_call 37; refine (MQ.out _ (by first | exact kp_same (by assumption) | exact kp_drew (by assumption) | exact (Below.refl _ _).drew)).mono ?_; rintro r w' ⟨A4, c4, rfl, hbq, H4q⟩)
                              | (go_at_call 41; refine (MV.out _ _ _ (kp_same (by assumption)) (by assumption)).mono ?_; rintro r w' ⟨rfl, hbm⟩))
                          rename_i hHeld
                          have HHeld := Lib.hid hHeld
                          clear hHeld SO MQ MV
                          go_wp2_with fail
                          go_roundw
                          case rel => exact ⟨u + 1, by have := HU.out; omega, by go_num, HK.out.1.trans (HHeld.out.1.mono HK.out.1.size), HK.out.2.below HHeld.out.1⟩
                          case measure => simp [intOf]; omega
                    · have HM3 : Hid (m + 1 ≤ 3 ∧ ∀ i, i < m + 1 → gA n0 i ≠ 0) := Lib.hid ⟨by
                        refine Decidable.byContradiction fun h => ?_
                        have h3 : m = 3 := by omega
                        have hg3 := HGM.out.1
                        rw [h3] at hg3
                        exact hz (hg3.trans (gA_end n0 hn0)), fun i hi => by
                        by_cases him : i = m
                        · rw [him, ← HGM.out.1]; exact hz
                        · exact HM.out.2.2 i (by omega)⟩
                      have hlt := parN_lt_self gm hg6 hz
                      have z3 : ((gm : Int) == 0) = false := by rw [beq_eq_false_iff_ne]; omega
                      have z4 : decide ((gm : Int) = 0) = false := decide_eq_false (by omega)
                      have z5 : decide (gm = 0) = false := decide_eq_false hz
                      have z6 : (gm == 0) = false := by rw [beq_eq_false_iff_ne]; exact hz
                      obtain ⟨i1, hi1⟩ : ∃ i1, i1 = 2 * (gm : Int) := ⟨_, rfl⟩
                      obtain ⟨i2, hi2⟩ : ∃ i2, i2 = i1 + 1 := ⟨_, rfl⟩
                      have e1 : IntKind.i64.wrap (2 * (gm : Int)) = i1 := by rw [IntKind.wrap_i64]; omega
                      have e2 : IntKind.i64.wrap (i1 + 1) = i2 := by rw [IntKind.wrap_i64]; omega
                      have HI2 := Lib.hid (And.intro hi1 hi2)
                      have MP := Lib.hid fun W => parent_any gm hg6 W
                      obtain ⟨pg, hpg⟩ : ∃ pg, pg = parN gm := ⟨_, rfl⟩
                      rw [← hpg] at MP hlt
                      have HPG := Lib.hid hpg
                      clear hi1 hi2 hpg hz
                      go_wp2_with (go_at_call 40; refine (MP.out _).mono ?_; rintro r w10 ⟨rfl, hb10⟩)
                      go_roundw
                      case rel =>
                        refine ⟨m + 1, HM3.out.1, ?_, ?_, HST.out.1.trans (hb10.mono HST.out.1.size), HST.out.2.below hb10, HM3.out.2⟩
                        · rw [HI2.out.2, HI2.out.1]
                          show _ = Value.int .i64 (2 * ((gA n0 m : Nat) : Int) + 1)
                          rw [← HGM.out.1]
                        · rw [HPG.out]
                          show _ = Value.int .i64 ((parN (gA n0 m) : Nat) : Int)
                          rw [← HGM.out.1]
                      case measure => simp [intOf]; omega
                · have hlt6 : u < 6 := by omega
                  have u1 : decide ((u : Int) ≤ 5) = true := decide_eq_true (by omega)
                  have u2 : (u : Int) ≤ 5 := by omega
                  have u3 : u ≤ 5 := by omega
                  have v0 : (0 : Int) ≤ (u : Int) := Int.natCast_nonneg _
                  have v1 : (u : Int) < 6 := by omega
                  have v2 : decide (u < 6) = true := decide_eq_true hlt6
                  have b0 := HI.out.2.cell (i := u) (by rw [fillA_len]; exact hlt6)
                  have bf := HI.out.2.frozen
                  go_wp2_with fail
                  go_roundw
                  case rel => exact ⟨u + 1, by omega, by go_num, HI.out.1.setCell (by rw [HWB2.out]; exact Nat.le_refl _) _, HI.out.2.set u (-1)⟩
                  case measure => simp [intOf]; omega
          · have hlt6 : u < 6 := by omega
            have H5 := Lib.hid (H4.out.below HJ.out.1)
            have q0 := H5.out.at_.farm.h0
            have u1 : decide ((u : Int) ≤ 5) = true := decide_eq_true (by omega)
            have u2 : (u : Int) ≤ 5 := by omega
            have u3 : u ≤ 5 := by omega
            have v0 : (0 : Int) ≤ (u : Int) := Int.natCast_nonneg _
            have v1 : (u : Int) < 6 := by omega
            have v2 : decide (u < 6) = true := decide_eq_true hlt6
            have MQ := H5.out.row hlt6
            obtain ⟨el, hel⟩ : ∃ el, el = (entsF X u).length := ⟨_, rfl⟩
            rw [← hel] at MQ
            have HEL := Lib.hid hel
            replace MQ := Lib.hid MQ
            clear hel
            go_wp2_with fail
            refine MQ.out.mono ?_
            rintro r w6 ⟨A6, c6, rfl, H6⟩
            have HW6 := Lib.hid (HJ.out.2.below H6.out.2)
            obtain ⟨ov, b0⟩ := HW6.out.cell hlt6
            have bf := HW6.out.frozen
            clear q0 MQ
            go_wp2_with fail
            go_roundw
            case rel =>
              refine ⟨u + 1, by omega, by go_num, ?_, ?_⟩
              · exact (HJ.out.1.trans (H6.out.2.mono HJ.out.1.size)).setCell (by rw [HWB.out]; exact Nat.le_refl _) _
              · have := HW6.out.store hlt6 (A := A6) (c := c6) HJ.out.2.lt (by rw [← HEL.out]; exact H6.out.1)
                rw [← HEL.out] at this
                exact this
            case measure => simp [intOf]; omega

set_option maxRecDepth 100000 in
theorem lifted (os : Os) (started : os.Started) (H : Type) (enc : TypeId × Value → H) :
    ReturnsInHanded {} Try.checked os 6 .any (Rows.hierServesSpec.pre6 enc Try.prog Try.f6 Rows.hierServesRow.domain false) (Rows.hierServesSpec.post enc Try.prog Try.f6 false true false false) := by
  refine returnsInHanded_of_change (C := Try.checked) own started (by as_aux_lemma => kernel_rfl) Try.func6
    (ChangeSpec.witness6 (enc := enc) (C := Try.checked) false ⟨#[], #[.agg #[.int .u16 0, .int .u16 0, .int .u16 0], .slice none 0 0, .int .u32 0], []⟩ 8 (by as_aux_lemma => kernel_rfl) (by as_aux_lemma => kernel_rfl) (by as_aux_lemma => kernel_rfl) (by as_aux_lemma => kernel_rfl)) ?_
  intro W base args ds gs before hval0 hW hcnd _
  have hval : ∀ (j : Nat) t v, Try.f6.params[j]? = some t → args[j]? = some v → Value.okWide Try.prog W .any base t v := hval0
  have hW' := hW
  obtain ⟨p, q, hA0, hV, rfl, hfz, hnd⟩ := hW
  have hA : DataW.TrodAll enc Try.prog W 0 (fun _ => true) true Try.f6.params.toList args.toList ds p := hA0
  rw [Try.params6] at hA hval
  obtain ⟨v0, vs0, d0, ds0, p0, q0, hargs, rfl, rfl, h0, r0⟩ := trodAll_cons hA
  obtain ⟨v1, vs1, d1, ds1, p1, q1, rfl, rfl, rfl, h1, r1⟩ := trodAll_cons r0
  obtain ⟨v2, vs2, d2, ds2, p2, q2, rfl, rfl, rfl, h2, r2⟩ := trodAll_cons r1
  obtain ⟨rfl, rfl, rfl⟩ := trodAll_nil r2
  obtain rfl : args = #[v0, v1, v2] := by cases args; simp_all
  obtain ⟨ac0, ag0, at0, rfl, bc0, bg0, bt0⟩ := open_terms20 (hval 0 60 v0 rfl rfl) h0
  obtain ⟨A1, axs1, acc1, rfl, Ud1, Xd1, Ld1⟩ := open_works20 (hval 1 61 v1 rfl rfl) h1
  obtain ⟨a2, rfl, b2⟩ := open_u32 Try.underlying65 (hval 2 65 v2 rfl rfl) h2
  refine (walk ac0 ag0 at0 A1 axs1 acc1 a2 bc0 bg0 bt0 b2 W Ud1 Xd1 Ld1).mono fun e W' ⟨he, bel⟩ => ?_
  subst he
  exact ⟨_, rfl, law_post laidOut (by as_aux_lemma => kernel_rfl) rfl Try.underlying4 rfl (fun ds hds => by
    match ds, hds with
    | [x0, x1, x2], _ => rfl) hW' bel⟩

theorem closed : joinedFacts Try.prog 6 Try.f6 Rows.hierServesSpec Rows.hierServesRow = true := by
  unfold joinedFacts
  simp only [Bool.and_eq_true]
  exact ⟨⟨⟨⟨⟨⟨⟨⟨⟨⟨⟨⟨⟨⟨⟨⟨⟨⟨⟨⟨⟨⟨⟨⟨⟨⟨⟨⟨⟨⟨⟨(by as_aux_lemma => kernel_rfl), laidOut⟩, mapsRowedT⟩, (by as_aux_lemma => kernel_rfl)⟩, (by as_aux_lemma => kernel_rfl)⟩, rfl⟩, stopsN⟩, rfl⟩, stopKnobsN⟩, (by as_aux_lemma => kernel_rfl)⟩, (by as_aux_lemma => kernel_rfl)⟩, (by as_aux_lemma => kernel_rfl)⟩, (by as_aux_lemma => kernel_rfl)⟩, (by as_aux_lemma => kernel_rfl)⟩, (by as_aux_lemma => kernel_rfl)⟩, (by as_aux_lemma => kernel_rfl)⟩, (by as_aux_lemma => kernel_rfl)⟩, (by as_aux_lemma => kernel_rfl)⟩, (by as_aux_lemma => kernel_rfl)⟩, (by as_aux_lemma => kernel_rfl)⟩, (by as_aux_lemma => kernel_rfl)⟩, (by as_aux_lemma => kernel_rfl)⟩, plainKeysT⟩, rfl⟩, stopsHeardT⟩, mayEnterT⟩, liftedT⟩, makeT⟩, (by as_aux_lemma => kernel_rfl)⟩, (by as_aux_lemma => kernel_rfl)⟩, (by as_aux_lemma => kernel_rfl)⟩, (by as_aux_lemma => kernel_rfl)⟩

theorem over : Rows.hierServesRow.holds Try.pinned (OpenSpec.ofChange Rows.hierServesSpec) :=
  OpenClaim.holds_of_wide 6 Try.f6 rfl rfl rfl rfl rfl rfl rfl ⟨rfl, rfl, rfl, rfl, rfl⟩ rfl rfl rfl rfl rfl (by as_aux_lemma => kernel_rfl) Try.func6 closed
    (of_decide_eq_true (by as_aux_lemma => kernel_rfl)) (by unfold Func.isWrapper; first | (rw [if_pos (by decide +kernel)]; as_aux_lemma => kernel_rfl) | (rw [if_neg (by decide +kernel)]; exact ⟨rfl, rfl⟩))
    (fun os started H enc _ => lifted os started H enc)

theorem proved : Rows.HierServesSaid := over
#print axioms proved


end hierServes

end Go.Proofs.Ytefekboacghnjaa
