/-
  LedgerPlays.
-/
import Derived.Test.YtkemhcokkaanfaaLRef6
import Derived.Test.YtkemhcokkaanfaaLaw18e
import Derived.StillTailTactics
namespace Go.Proofs.Ytkemhcokkaanfaa
open Go.ChangeShapes Go.WideShapes Go.ChangeAt Go.RowKit Go.Deep Go.Maps

namespace ledgerPlays
theorem cell_lt {w : World} {a : Addr} {v : Value} (h : w.cell? a = some v) : a.block < w.heap.size := by
  unfold World.cell? at h
  by_cases hb : a.block < w.heap.size
  · exact hb
  · rw [Array.getElem?_eq_none (by omega)] at h
    simp at h
set_option maxRecDepth 100000 in
set_option maxHeartbeats 40000000 in
theorem walk (A : Option Addr) (ds : List Deed18) (c : Nat) (g : Int) (hg1 : -9223372036854775808 ≤ g) (hg2 : g ≤ 9223372036854775807)
    (w : World) (hU : Deeds18 w w.heap.size A ds) (hX : ∀ d ∈ ds, d.ok w w.heap.size) (hL : ds.length ≤ 9223372036854775807) :
    Calls Try.prog 12 #[.slice A ds.length c, .int .i64 g] w fun e w' => e = .returned (.bool true) ∧ Below w.heap.size w w' := by
  have wg := wf64 hg1 hg2
  have M0 := Lib.hid fun w' (hb : Below w.heap.size w w') => few_any A ds c w' ((hU.below hb) |> fun h => by rcases h with h | ⟨b, off, e, h1, h2⟩; exact .inl h; exact .inr ⟨b, off, e, Nat.lt_of_lt_of_le h1 hb.size, h2⟩) hL (fun d hd => (hX d hd).len)
  have HX : Hid (∀ d ∈ fewL ds, d.ok w w.heap.size ∧ d.zs.length ≤ 20) := Lib.hid fun d hd => ⟨hX d (fewL_mem hd).1, (fewL_mem hd).2⟩
  have hF := fewL_len ds
  clear hU hX hL
  generalize ds.length = n0 at *
  generalize fewL ds = F at *
  go_enter Try.func12, Try.ntmps12
  go_wp2_with fail
  refine (shown18 _).mono ?_
  rintro e w1 ⟨rfl, hb1'⟩
  go_wp2_with fail
  refine (M0.out w1 hb1').mono ?_
  rintro e w2 ⟨v, rfl, hrow, hb2'⟩
  obtain ⟨A2, c2, rfl, hD⟩ := own_deeds hrow
  have hz1 := hb1'.size
  have hB2 : Below w.heap.size w w2 := hb1'.trans (hb2'.mono hz1)
  have hz2 := hB2.size
  have HX2 : Hid (∀ d ∈ F, d.ok w2 w2.heap.size ∧ d.zs.length ≤ 20) := Lib.hid fun d hd => ⟨by
    have h := ((HX.out d hd).1.below hB2)
    exact ⟨h.t1, h.t2, h.n1, h.n2, h.path.mono hz2, h.wf, h.len, h.cap⟩, (HX.out d hd).2⟩
  clear hrow hb1' hb2' HX M0
  obtain ⟨n, hn⟩ : ∃ n, n = F.length := ⟨_, rfl⟩
  rw [← hn]
  rw [← hn] at hF
  have HN := Lib.hid hn
  clear hn
  go_wp2_with fail
  refine (lnew_any _).mono ?_
  rintro e w3 ⟨rfl, B3, hb3, hz3⟩
  obtain ⟨W0, hW0⟩ : ∃ W0, W0 = w3.alloc (.cells #[.slice none 0 0] 81) := ⟨_, rfl⟩
  have P0 : PS w2.heap.size (w2.heap.size + 2) w2.heap.size (w2.heap.size + 1) w3.heap.size 0 w2 W0 none 0 [] [] := by
    have hb : Below w3.heap.size w3 W0 := by rw [hW0]; exact (Below.refl _ _).alloc (Nat.le_refl _) _
    have hb4 := hb3.size
    exact ⟨⟨0, 0, Nat.le_refl _, Nat.le_refl _, B3.below hb (Nat.le_refl _)⟩, .inl ⟨rfl, rfl, rfl⟩, Nat.le_refl _, by simp, by simp, by decide, by rw [hW0]; exact Blk.new _ _ _, hb3.trans (hb.mono hb4), Nat.le_refl _, by omega, by omega, by omega, hb4⟩
  obtain ⟨p, hp⟩ : ∃ p, p = w2.heap.size + 2 := ⟨_, rfl⟩
  obtain ⟨bt, hbt⟩ : ∃ bt, bt = w2.heap.size := ⟨_, rfl⟩
  obtain ⟨bg, hbg⟩ : ∃ bg, bg = w2.heap.size + 1 := ⟨_, rfl⟩
  obtain ⟨xb, hxb⟩ : ∃ xb, xb = w3.heap.size := ⟨_, rfl⟩
  rw [← hp, ← hbg, ← hxb] at P0
  rw [show PS w2.heap.size p w2.heap.size bg xb 0 w2 W0 none 0 [] [] = PS w2.heap.size p bt bg xb 0 w2 W0 none 0 [] [] by rw [hbt]] at P0
  rw [← hp]
  have P0 := Lib.hid P0
  have HW0 := Lib.hid hW0
  have HXB := Lib.hid hxb
  clear B3 hb3 hz3 hp hbt hbg hW0 hxb
  go_wp2_with fail
  rw [← HW0.out, ← HXB.out]
  clear HW0 HXB
  go_loopw [9] (fun s9 wr => ∃ (k : Nat) (A : Option Addr) (c : Nat) (R : List Deed18), k ≤ n ∧ s9 = .int .i64 k ∧ Hid (PS w2.heap.size p bt bg xb k w2 wr A c R R)) (fun s9 _ => n - (intOf s9).toNat)
  case atStart => exact ⟨0, none, 0, [], by omega, rfl, P0⟩
  case round =>
    obtain ⟨k, A, c, R, hk, rfl, HP⟩ := hrel
    clear P0
    obtain ⟨lp, lt, lg, lx⟩ := HP.out.lts
    by_cases hlt : k < n
    · have hkF : k < F.length := by rw [← HN.out]; exact hlt
      have hbw := HP.out.base
      obtain ⟨b', off, rfl, hbB, hat, hm, hok⟩ := few_facts hD (fun d hd => (HX2.out d hd).1) (Below.refl _ _) hkF
      obtain ⟨d0, d1, d2, d3⟩ := hat.below hbw hbB
      have hl20 := (HX2.out _ hm).2
      have HOK0 := Lib.hid (HX2.out _ hm).1
      have HOK := Lib.hid (hok.below hbw)
      clear hat hm hkF hok hbw
      generalize F.getD k Deed18.none = d at *
      have z1 : decide ((k : Int) < (n : Int)) = true := decide_eq_true (by omega)
      have z2 : decide (k < n) = true := decide_eq_true hlt
      have j0 : (0 : Int) ≤ (k : Int) := Int.natCast_nonneg _
      have j1 : (k : Int) < (n : Int) := by omega
      have wt := wf64 HOK.out.t1 HOK.out.t2
      obtain ⟨W1, hW1⟩ : ∃ W1, W1 = wr.alloc (.cells #[.slice d.A d.zs.length d.c, .int .i64 d.task, .int .i64 d.ns, .bool d.gone] 74) := ⟨_, rfl⟩
      obtain ⟨qd, hqd⟩ : ∃ qd, qd = wr.heap.size := ⟨_, rfl⟩
      have hW1b : Below wr.heap.size wr W1 := by rw [hW1]; exact (Below.refl _ _).alloc (Nat.le_refl _) _
      have hZ1 : Blk W1 qd #[.slice d.A d.zs.length d.c, .int .i64 d.task, .int .i64 d.ns, .bool d.gone] 74 := by rw [hW1, hqd]; exact Blk.new _ _ _
      have HP1 := Lib.hid (HP.out.below hW1b)
      have HOK1 := Lib.hid (HOK.out.below (hW1b.mono (by have := HP.out.base.size; omega)))
      obtain ⟨x0, _⟩ := HP1.out.xbox
      have q0 : W1.cell? ⟨qd, 0, none⟩ = some (.slice d.A d.zs.length d.c) := Blk.cell hZ1 0
      have q1 : W1.cell? ⟨qd, 1, none⟩ = some (.int .i64 d.task) := Blk.cell hZ1 1
      have q2 : W1.cell? ⟨qd, 2, none⟩ = some (.int .i64 d.ns) := Blk.cell hZ1 2
      have q3 : W1.cell? ⟨qd, 3, none⟩ = some (.bool d.gone) := Blk.cell hZ1 3
      have HZ1 := Lib.hid (And.intro hZ1 hW1b)
      have hqd1 : qd ∉ [p, bt, bg] := by simp only [List.mem_cons, List.mem_nil_iff, or_false]; omega
      have hqd2 : qd ≠ xb := by omega
      have HP2 := Lib.hid (And.intro HP1.out (And.intro HZ1.out.2 (And.intro hW1 hqd)))
      clear hW1b hZ1 HP HP1
      have HP := HP2
      clear HP2
      generalize hgn : d.gone = gn at *
      clear hW1 hqd
      have hqW : qd < W1.heap.size := HZ1.out.1.lt
      cases gn
      · have MC : Hid (Calls Try.prog 40 #[.pointer (some ⟨p, 0, none⟩), .slice d.A d.zs.length d.c, .int .i64 d.task, .int .i64 d.ns] W1 fun e w' => e = .returned (.int .i64 (creditN R d)) ∧
            Hid (PS w2.heap.size p bt bg xb (k + 1) w2 w' A c (creditR R d) R) ∧ w'.cell? ⟨qd, 0, none⟩ = some (.slice d.A d.zs.length d.c) ∧ w'.cell? ⟨qd, 1, none⟩ = some (.int .i64 d.task) ∧ w'.cell? ⟨qd, 2, none⟩ = some (.int .i64 d.ns) ∧
            Hid (Blk w' qd #[.slice d.A d.zs.length d.c, .int .i64 d.task, .int .i64 d.ns, .bool false] 74) ∧ w'.cell? ⟨xb, 0, none⟩ = some (.slice A R.length c)) := Lib.hid <| by
          refine (HP.out.1.credit (by omega) HOK1.out hl20).mono ?_
          rintro e w' ⟨rfl, hP, hT⟩
          have hZ := HZ1.out.1.turns hT hqd1
          exact ⟨rfl, hP, Blk.cell hZ 0, Blk.cell hZ 1, Blk.cell hZ 2, hZ, hP.xbox.1⟩
        have hRl := creditR_len R d
        have hRk := HP.out.1.len
        obtain ⟨RR, hRR⟩ : ∃ RR, RR = creditR R d := ⟨_, rfl⟩
        obtain ⟨r, hr⟩ : ∃ r, r = creditN R d := ⟨_, rfl⟩
        have MD : Hid (∀ W, PS w2.heap.size p bt bg xb (k + 1) w2 W A c RR R → Calls Try.prog 55 #[bookV A R.length c, .slice d.A d.zs.length d.c, .int .i64 d.task, .int .i64 d.ns] W fun e w' => ∃ A2 c2, e = .returned (.tuple #[bookV A2 RR.length c2, .int .i64 r]) ∧
            Hid (PS w2.heap.size p bt bg xb (k + 1) w2 ((w'.setCell ⟨xb, 0, none⟩ (.slice A2 RR.length c2)).alloc (.cells #[.slice A2 RR.length c2] 81)) A2 c2 RR RR) ∧ Below W.heap.size W w' ∧
            w'.cell? ⟨xb, 0, none⟩ = some (.slice A R.length c) ∧ w'.frozen? ⟨xb, 0, none⟩ = false) := Lib.hid fun W hP => by
          have hOK := HOK0.out.below hP.base
          refine (hP.rcredit (by omega) hOK hl20).mono ?_
          rw [← hRR, ← hr]
          rintro e w' ⟨A2, c2, rfl, hR, hb⟩
          have hP2 := hP.below hb
          refine ⟨A2, c2, rfl, ?_, hb, hP2.xbox.1, hP2.xbox.2⟩
          exact (hP2.set (Below.refl _ _) hR (by rw [hRR]; omega) (by rw [hRR]; exact creditR_ok hP2.ok (HOK0.out.below hP2.base)) (by rw [hRR]; exact creditR_pos hP2.pos) (by rw [hRR]; exact creditR_top hP2.top)).below ((Below.refl _ _).alloc (Nat.le_refl _) _)
        rw [← hRR, ← hr] at MC
        rw [← hRR] at hRl
        clear hRR hr
        go_wp2_with fail
        rw [← HP.out.2.2.1, ← HP.out.2.2.2]
        refine MC.out.mono ?_
        rintro e w4 ⟨rfl, HP4, y0, y1, y2, HZ4, y3⟩
        go_wp2_with fail
        refine (MD.out _ HP4.out).mono ?_
        rintro e w5 ⟨A5, c5, rfl, HP5, hb5, y4, y5⟩
        have hZ5 := HZ4.out.below hb5 HZ4.out.lt
        have y6 : w5.cell? ⟨qd, 0, none⟩ = some (.slice d.A d.zs.length d.c) := Blk.cell hZ5 0
        have y7 : w5.cell? ⟨qd, 1, none⟩ = some (.int .i64 d.task) := Blk.cell hZ5 1
        have hxs : xb < w5.heap.size := by
          have := HP4.out.lts
          have := hb5.size
          omega
        obtain ⟨W7, hW7⟩ : ∃ W7, W7 = (w5.setCell ⟨xb, 0, none⟩ (.slice A5 RR.length c5)).alloc (.cells #[.slice A5 RR.length c5] 81) := ⟨_, rfl⟩
        have HW7 := Lib.hid hW7
        rw [← hW7] at HP5
        have hZ7 : Blk W7 qd #[.slice d.A d.zs.length d.c, .int .i64 d.task, .int .i64 d.ns, .bool false] 74 := by rw [hW7]; exact (hZ5.other _ hqd2).alloc _
        clear hW7 hZ5
        have HZ7 := Lib.hid hZ7
        clear hZ7
        go_wp2_with fail
        rw [← HW7.out]
        clear HW7
        obtain ⟨tt, htt⟩ : ∃ tt, tt = totR RR := ⟨_, rfl⟩
        obtain ⟨tk, htk⟩ : ∃ tk, tk = taskR RR d.task := ⟨_, rfl⟩
        have MT1 := Lib.hid fun W (hb : Below W7.heap.size W7 W) => (HP5.out.below hb).total
        have MT2 := Lib.hid fun W (hb : Below W7.heap.size W7 W) => (HP5.out.below hb).rtotal (by omega)
        have MK1 := Lib.hid fun W (hb : Below W7.heap.size W7 W) => (HP5.out.below hb).task d.task wt
        have MK2 := Lib.hid fun W (hb : Below W7.heap.size W7 W) => (HP5.out.below hb).rtask (by omega) d.task
        rw [← htt] at MT1 MT2
        rw [← htk] at MK1 MK2
        have SO := Lib.hid fun w' (h : Below W7.heap.size W7 w') => (⟨h, Blk.cell (HZ7.out.below h HZ7.out.lt) 0, Blk.cell (HZ7.out.below h HZ7.out.lt) 1, (HP5.out.below h).xbox.1⟩ :
          Below W7.heap.size W7 w' ∧ w'.cell? ⟨qd, 0, none⟩ = some (.slice d.A d.zs.length d.c) ∧ w'.cell? ⟨qd, 1, none⟩ = some (.int .i64 d.task) ∧ w'.cell? ⟨xb, 0, none⟩ = some (.slice A5 RR.length c5))
        have hz7 := Nat.le_refl W7.heap.size
        have g0 : W7.cell? ⟨qd, 0, none⟩ = some (.slice d.A d.zs.length d.c) := Blk.cell HZ7.out 0
        have g1 : W7.cell? ⟨qd, 1, none⟩ = some (.int .i64 d.task) := Blk.cell HZ7.out 1
        have g2 : W7.cell? ⟨xb, 0, none⟩ = some (.slice A5 RR.length c5) := HP5.out.xbox.1
        clear htt htk d0 d1 d2 d3 q0 q1 q2 q3 x0 y0 y1 y2 y3 y4 y5 y6 y7
        go_region_held3 (fun w' => Below W7.heap.size W7 w' ∧ w'.cell? ⟨qd, 0, none⟩ = some (.slice d.A d.zs.length d.c) ∧ w'.cell? ⟨qd, 1, none⟩ = some (.int .i64 d.task) ∧ w'.cell? ⟨xb, 0, none⟩ = some (.slice A5 RR.length c5))
          (first | exact SO.out _ (kp_drew (by assumption)) | exact SO.out _ (kp_call (by assumption) (by assumption) hz7) | exact SO.out _ (kp_same (by assumption)) | exact SO.out _ (kp_start _ _))
          (first
            | (go_at_call 42; refine (MT1.out _ (by first | exact kp_same (by assumption) | exact kp_drew (by assumption) | exact (Below.refl _ _).drew)).mono ?_; rintro e w' ⟨rfl, hc1⟩)
            | (go_at_call 56; refine (MT2.out _ (by first | exact kp_same (by assumption) | exact kp_drew (by assumption) | exact (Below.refl _ _).drew)).mono ?_; rintro e w' ⟨rfl, hc2⟩)
            | (go_at_call 50; refine (MK1.out _ (by first | exact kp_same (by assumption) | exact kp_drew (by assumption) | exact (Below.refl _ _).drew)).mono ?_; rintro e w' ⟨rfl, hc3⟩)
            | (go_at_call 53; refine (MK2.out _ (by first | exact kp_same (by assumption) | exact kp_drew (by assumption) | exact (Below.refl _ _).drew)).mono ?_; rintro e w' ⟨rfl, hc4⟩))
        rename_i hHeld
        have HHeld := Lib.hid hHeld
        clear hHeld g0 g1 g2 SO MT1 MT2 MK1 MK2
        go_wp2_with fail
        go_loopw [14] (fun s14 wr => ∃ j : Nat, j ≤ d.zs.length ∧ s14 = .int .i64 j ∧ Below W7.heap.size W7 wr) (fun s14 _ => d.zs.length - (intOf s14).toNat)
        case atStart => exact ⟨0, Nat.zero_le _, rfl, HHeld.out.1⟩
        case round =>
          obtain ⟨j, hj, rfl, hBj⟩ := hrel
          have hBase := (HP5.out.below hBj).base
          have hZj := HZ7.out.below hBj HZ7.out.lt
          by_cases hlj : j < d.zs.length
          · have hzw : (Lit.int .i64 (d.zs.getD j 0)).wf = true := HOK0.out.wf _ (by rw [List.getD_eq_getElem?_getD, List.getElem?_eq_getElem hlj]; exact List.getElem_mem _)
            rcases HOK0.out.path with h | ⟨pb, po, ePA, hpb, hpc⟩
            · rw [h] at hlj; simp at hlj
            have pc := (hBase.cell (p := ⟨pb, po + j, none⟩) hpb).trans (hpc j hlj)
            have g0 : wr.cell? ⟨qd, 0, none⟩ = some (.slice (some ⟨pb, po, none⟩) d.zs.length d.c) := by rw [← ePA]; exact Blk.cell hZj 0
            have g2 : wr.cell? ⟨xb, 0, none⟩ = some (.slice A5 RR.length c5) := (HP5.out.below hBj).xbox.1
            have v2 : decide ((j : Int) < (d.zs.length : Int)) = true := decide_eq_true (by omega)
            have v3 : decide (j < d.zs.length) = true := decide_eq_true hlj
            have v4 : (0 : Int) ≤ (j : Int) := Int.natCast_nonneg _
            have v5 : (j : Int) < (d.zs.length : Int) := by omega
            obtain ⟨gg, hgg⟩ : ∃ gg, gg = groupR RR (d.zs.getD j 0) := ⟨_, rfl⟩
            have MG1 := Lib.hid fun W (hb : Below W7.heap.size W7 W) => (HP5.out.below hb).group (d.zs.getD j 0) hzw
            have MG2 := Lib.hid fun W (hb : Below W7.heap.size W7 W) => (HP5.out.below hb).rgroup (by omega) (d.zs.getD j 0)
            rw [← hgg] at MG1 MG2
            have SO := Lib.hid fun w' (h : Below W7.heap.size W7 w') => (⟨h, by rw [← ePA]; exact Blk.cell (HZ7.out.below h HZ7.out.lt) 0, ((HP5.out.below h).base.cell (p := ⟨pb, po + j, none⟩) hpb).trans (hpc j hlj), (HP5.out.below h).xbox.1⟩ :
              Below W7.heap.size W7 w' ∧ w'.cell? ⟨qd, 0, none⟩ = some (.slice (some ⟨pb, po, none⟩) d.zs.length d.c) ∧ w'.cell? ⟨pb, po + j, none⟩ = some (.int .i64 (d.zs.getD j 0)) ∧ w'.cell? ⟨xb, 0, none⟩ = some (.slice A5 RR.length c5))
            have HBj := Lib.hid hBj
            clear hBase hZj ePA hpb hpc hgg hzw hBj
            generalize d.zs.getD j 0 = z at *
            go_wp2_with fail
            go_region_held3 (fun w' => Below W7.heap.size W7 w' ∧ w'.cell? ⟨qd, 0, none⟩ = some (.slice (some ⟨pb, po, none⟩) d.zs.length d.c) ∧ w'.cell? ⟨pb, po + j, none⟩ = some (.int .i64 z) ∧ w'.cell? ⟨xb, 0, none⟩ = some (.slice A5 RR.length c5))
              (first | exact SO.out _ (kp_drew (by assumption)) | exact SO.out _ (kp_call (by assumption) (by assumption) hz7) | exact SO.out _ (kp_same (by assumption)) | exact SO.out _ HBj.out.drew)
              (first
                | (go_at_call 41; refine (MG1.out _ (by first | exact kp_same (by assumption) | exact kp_drew (by assumption) | exact HBj.out.drew)).mono ?_; rintro e w' ⟨rfl, hc1⟩)
                | (go_at_call 57; refine (MG2.out _ (by first | exact kp_same (by assumption) | exact kp_drew (by assumption) | exact HBj.out.drew)).mono ?_; rintro e w' ⟨rfl, hc2⟩))
            rename_i hHeld2
            have HHeld2 := Lib.hid hHeld2.1
            clear hHeld2
            go_wp2_with fail
            go_roundw
            case rel => exact ⟨j + 1, by omega, by go_num, HHeld2.out⟩
            case measure => simp [intOf]; omega
          · obtain rfl : j = d.zs.length := by omega
            have v2 : decide ((d.zs.length : Int) < (d.zs.length : Int)) = false := decide_eq_false (by omega)
            have v3 : decide (d.zs.length < d.zs.length) = false := decide_eq_false (by omega)
            have g0 : wr.cell? ⟨qd, 0, none⟩ = some (.slice d.A d.zs.length d.c) := Blk.cell hZj 0
            have HPj := Lib.hid (HP5.out.below hBj)
            clear hBj hBase hZj
            go_wp2_with fail
            go_roundw
            case rel => exact ⟨k + 1, A5, c5, RR, by omega, by go_num, HPj⟩
            case measure => simp [intOf]; omega
      · have MF : Hid (∀ W, Below W1.heap.size W1 W → Calls Try.prog 52 #[.pointer (some ⟨p, 0, none⟩), .int .i64 d.task] W fun e w' => e = .returned (.int .i64 (taskR R d.task)) ∧
            PS w2.heap.size p bt bg xb (k + 1) w2 w' A c (R.map (forgetD d.task)) R ∧ w'.cell? ⟨qd, 1, none⟩ = some (.int .i64 d.task) ∧ w'.cell? ⟨xb, 0, none⟩ = some (.slice A R.length c)) := Lib.hid fun W hb => by
          have hP := HP.out.1.below hb
          refine (hP.forget d.task wt).mono ?_
          rintro e w' ⟨rfl, hP', hT⟩
          have hZ := (HZ1.out.1.below hb hqW).turns hT hqd1
          exact ⟨rfl, hP', Blk.cell hZ 1, hP'.xbox.1⟩
        have MR : Hid (∀ W, Below W1.heap.size W1 W → Calls Try.prog 53 #[bookV A R.length c, .int .i64 d.task] W fun e w' => e = .returned (.int .i64 (taskR R d.task)) ∧
            Below W1.heap.size W1 w' ∧ w'.cell? ⟨qd, 1, none⟩ = some (.int .i64 d.task) ∧ w'.cell? ⟨xb, 0, none⟩ = some (.slice A R.length c)) := Lib.hid fun W hb => by
          have hP := HP.out.1.below hb
          refine (hP.rtask (by omega) d.task).mono ?_
          rintro e w' ⟨rfl, hb'⟩
          have hb2 := hb.trans (hb'.mono hb.size)
          have hZ := (HZ1.out.1.below hb2 hqW)
          exact ⟨rfl, hb2, Blk.cell hZ 1, (HP.out.1.below hb2).xbox.1⟩
        have MR2 : Hid (∀ W Q, PS w2.heap.size p bt bg xb (k + 1) w2 W A c Q R → Calls Try.prog 53 #[bookV A R.length c, .int .i64 d.task] W fun e w' => e = .returned (.int .i64 (taskR R d.task)) ∧
            PS w2.heap.size p bt bg xb (k + 1) w2 w' A c Q R ∧ (W.cell? ⟨qd, 1, none⟩ = some (.int .i64 d.task) → w'.cell? ⟨qd, 1, none⟩ = some (.int .i64 d.task)) ∧ w'.cell? ⟨xb, 0, none⟩ = some (.slice A R.length c)) := Lib.hid fun W Q hP => by
          refine (hP.rtask (by omega) d.task).mono ?_
          rintro e w' ⟨rfl, hb'⟩
          refine ⟨rfl, hP.below hb', fun h => (hb'.cell (p := ⟨qd, 1, none⟩) ?_).trans h, (hP.below hb').xbox.1⟩
          exact cell_lt h
        have MG : Hid (∀ W Q, PS w2.heap.size p bt bg xb (k + 1) w2 W A c Q R → Calls Try.prog 54 #[bookV A R.length c, .int .i64 d.task] W fun e w' => ∃ A2 c2, e = .returned (bookV A2 R.length c2) ∧
            Hid (PS w2.heap.size p bt bg xb (k + 1) w2 (w'.setCell ⟨xb, 0, none⟩ (.slice A2 R.length c2)) A2 c2 Q (R.map (forgetD d.task))) ∧ w'.cell? ⟨xb, 0, none⟩ = some (.slice A R.length c) ∧ w'.frozen? ⟨xb, 0, none⟩ = false) := Lib.hid fun W Q hP => by
          refine (hP.rforget (by omega) d.task).mono ?_
          rintro e w' ⟨A2, c2, rfl, hR, hb⟩
          have hP2 := hP.below hb
          exact ⟨A2, c2, rfl, hP2.setF d.task (Below.refl _ _) hR, hP2.xbox.1, hP2.xbox.2⟩
        generalize hRF : R.map (forgetD d.task) = RF at *
        obtain ⟨tx, htx⟩ : ∃ tx, tx = taskR R d.task := ⟨_, rfl⟩
        rw [← htx] at MF MR MR2
        clear htx
        go_wp2_with fail
        rw [← HP.out.2.2.1, ← HP.out.2.2.2]
        go_region_with (first
          | (go_at_call 52; refine (MF.out _ (by first | exact (Below.refl _ _).drew | assumption | exact Below.refl _ _)).mono ?_; rintro e w4 ⟨rfl, hP4, y1, y2⟩)
          | (go_at_call 53; first
              | (refine (MR2.out _ _ (by assumption)).mono ?_; rintro e w5 ⟨rfl, hP5, y3, y4⟩; have y5 := y3 (by assumption))
              | (refine (MR.out _ (by first | exact (Below.refl _ _).drew | exact Below.refl _ _)).mono ?_; rintro e w5 ⟨rfl, hb5, y3, y4⟩)))
        all_goals
          have HPx := Lib.hid (show PS w2.heap.size p bt bg xb (k + 1) w2 _ A c RF R by assumption)
          go_wp2_with fail
          refine (MG.out _ _ HPx.out).mono ?_
          rintro e w6 ⟨A6, c6, rfl, HP6, y6, y7⟩
          go_wp2_with fail
          go_roundw
          case rel => exact ⟨k + 1, A6, c6, RF, by omega, by go_num, HP6⟩
          case measure => simp [intOf]; omega
    · obtain rfl : k = n := by omega
      have z1 : decide ((k : Int) < (k : Int)) = false := decide_eq_false (by omega)
      have HE : Hid (Below w.heap.size w wr) := Lib.hid (hB2.trans (HP.out.base.mono hz2))
      obtain ⟨tg, htg⟩ : ∃ tg, tg = taskR R g := ⟨_, rfl⟩
      obtain ⟨gg, hgg⟩ : ∃ gg, gg = groupR R g := ⟨_, rfl⟩
      have x0 := HP.out.xbox.1
      have lx0 : w2.heap.size ≤ wr.heap.size := HP.out.base.size
      have M1 : Hid (∀ W, Below wr.heap.size wr W → Calls Try.prog 50 #[.pointer (some ⟨p, 0, none⟩), .int .i64 g] W fun e w' => e = .returned (.int .i64 tg) ∧ Below wr.heap.size wr w' ∧ w'.cell? ⟨xb, 0, none⟩ = some (.slice A R.length c)) := Lib.hid fun W hb => by
        refine ((HP.out.below hb).task g wg).mono ?_
        rintro e w' ⟨rfl, hb'⟩
        exact ⟨by rw [htg], hb.trans (hb'.mono hb.size), ((HP.out.below hb).below hb').xbox.1⟩
      have M2 : Hid (∀ W, Below wr.heap.size wr W → Calls Try.prog 53 #[bookV A R.length c, .int .i64 g] W fun e w' => e = .returned (.int .i64 tg) ∧ Below wr.heap.size wr w' ∧ w'.cell? ⟨xb, 0, none⟩ = some (.slice A R.length c)) := Lib.hid fun W hb => by
        refine ((HP.out.below hb).rtask (by omega) g).mono ?_
        rintro e w' ⟨rfl, hb'⟩
        exact ⟨by rw [htg], hb.trans (hb'.mono hb.size), ((HP.out.below hb).below hb').xbox.1⟩
      have M3 : Hid (∀ W, Below wr.heap.size wr W → Calls Try.prog 41 #[.pointer (some ⟨p, 0, none⟩), .int .i64 g] W fun e w' => e = .returned (.int .i64 gg) ∧ Below wr.heap.size wr w' ∧ w'.cell? ⟨xb, 0, none⟩ = some (.slice A R.length c)) := Lib.hid fun W hb => by
        refine ((HP.out.below hb).group g wg).mono ?_
        rintro e w' ⟨rfl, hb'⟩
        exact ⟨by rw [hgg], hb.trans (hb'.mono hb.size), ((HP.out.below hb).below hb').xbox.1⟩
      have M4 : Hid (∀ W, Below wr.heap.size wr W → Calls Try.prog 57 #[bookV A R.length c, .int .i64 g] W fun e w' => e = .returned (.int .i64 gg) ∧ Below wr.heap.size wr w' ∧ w'.cell? ⟨xb, 0, none⟩ = some (.slice A R.length c)) := Lib.hid fun W hb => by
        refine ((HP.out.below hb).rgroup (by omega) g).mono ?_
        rintro e w' ⟨rfl, hb'⟩
        exact ⟨by rw [hgg], hb.trans (hb'.mono hb.size), ((HP.out.below hb).below hb').xbox.1⟩
      have M5 : Hid (∀ W, Below wr.heap.size wr W → Calls Try.prog 49 #[.pointer (some ⟨p, 0, none⟩)] W fun e w' => ∃ A1 c1 L, e = .returned (.slice A1 L.length c1) ∧ Below wr.heap.size wr w' ∧ w'.cell? ⟨xb, 0, none⟩ = some (.slice A R.length c) ∧
          IsL R L ∧ IntsAt w' w'.heap.size A1 L ∧ L.length ≤ 9223372036854775807 ∧ ∀ A2 M, IntsAt W W.heap.size A2 M → IntsAt w' w'.heap.size A2 M) := Lib.hid fun W hb => by
        refine ((HP.out.below hb).tasks (by omega)).mono ?_
        rintro e w' ⟨A1, c1, L, rfl, hL, hl, hI, hb'⟩
        exact ⟨A1, c1, L, rfl, hb.trans (hb'.mono hb.size), ((HP.out.below hb).below hb').xbox.1, hL, hI, hl, fun A2 M h => (h.below hb').mono hb'.size⟩
      have M6 : Hid (∀ W, Below wr.heap.size wr W → Calls Try.prog 58 #[bookV A R.length c] W fun e w' => ∃ A1 c1 L, e = .returned (.slice A1 L.length c1) ∧ Below wr.heap.size wr w' ∧ w'.cell? ⟨xb, 0, none⟩ = some (.slice A R.length c) ∧
          IsL R L ∧ IntsAt w' w'.heap.size A1 L ∧ L.length ≤ 9223372036854775807 ∧ ∀ A2 M, IntsAt W W.heap.size A2 M → IntsAt w' w'.heap.size A2 M) := Lib.hid fun W hb => by
        refine ((HP.out.below hb).rtasks (by omega)).mono ?_
        rintro e w' ⟨A1, c1, L, rfl, hL, hl, hI, hb'⟩
        exact ⟨A1, c1, L, rfl, hb.trans (hb'.mono hb.size), ((HP.out.below hb).below hb').xbox.1, hL, hI, hl, fun A2 M h => (h.below hb').mono hb'.size⟩
      have M7 : Hid (∀ W A1 c1 L A2 c2 M, Below wr.heap.size wr W → IsL R L → IsL R M → IntsAt W W.heap.size A1 L → IntsAt W W.heap.size A2 M → L.length ≤ 9223372036854775807 → M.length ≤ 9223372036854775807 →
          Calls Try.prog 51 #[.slice A1 L.length c1, .slice A2 M.length c2] W fun e w' => e = .returned (.bool true) ∧ Below wr.heap.size wr w') := Lib.hid fun W A1 c1 L A2 c2 M hb h1 h2 h3 h4 h5 h6 => by
        have := lsame_any W A1 A2 L M c1 c2 h3 h4 h5 h6
        rw [decide_eq_true (h1.same h2)] at this
        refine this.mono ?_
        rintro e w' ⟨rfl, hb'⟩
        exact ⟨rfl, hb.trans (hb'.mono hb.size)⟩
      clear htg hgg hB2 hz2 hz1 hD HX2 P0 hk
      have HP := 0
      go_wp2_with fail
      go_region_with (first
        | (go_at_call 50; refine (M1.out _ (by first | assumption | exact (Below.refl _ _).drew)).mono ?_; rintro e w' ⟨rfl, hb1, y1⟩)
        | (go_at_call 53; refine (M2.out _ (by first | assumption | exact (Below.refl _ _).drew)).mono ?_; rintro e w' ⟨rfl, hb2, y2⟩)
        | (go_at_call 41; refine (M3.out _ (by first | assumption | exact (Below.refl _ _).drew)).mono ?_; rintro e w' ⟨rfl, hb3, y3⟩)
        | (go_at_call 57; refine (M4.out _ (by first | assumption | exact (Below.refl _ _).drew)).mono ?_; rintro e w' ⟨rfl, hb4, y4⟩)
        | (go_at_call 49; refine (M5.out _ (by first | assumption | exact (Below.refl _ _).drew)).mono ?_; rintro e w' ⟨A1, c1, L, rfl, hb5, y5, hs5, i5, l5, k5⟩; first | (have j6 := k5 _ _ i6) | skip)
        | (go_at_call 58; refine (M6.out _ (by first | assumption | exact (Below.refl _ _).drew)).mono ?_; rintro e w' ⟨A6, c6, M, rfl, hb6, y6, hs6, i6, l6, k6⟩; first | (have j5 := k6 _ _ i5) | skip)
        | (go_at_call 51; refine (M7.out _ _ _ _ _ _ _ (by assumption) hs5 hs6 (by assumption) (by assumption) l5 l6).mono ?_; rintro e w' ⟨rfl, hb7⟩))
      all_goals
        first
        | (go_ret2; exact ⟨rfl, HE.out.trans (hb7.mono (Nat.le_trans (HE.out.size) (Nat.le_refl _)))⟩)
        | (go_wp2_with fail
           go_ret
           exact ⟨rfl, HE.out.trans (hb7.mono (HE.out.size))⟩)

set_option maxRecDepth 100000 in
theorem lifted (os : Os) (started : os.Started) (H : Type) (enc : TypeId × Value → H) :
    ReturnsInHanded {} Try.checked os 12 .any (Rows.ledgerPlaysSpec.pre6 enc Try.prog Try.f12 Rows.ledgerPlaysRow.domain false) (Rows.ledgerPlaysSpec.post enc Try.prog Try.f12 false true false false) := by
  refine returnsInHanded_of_change (C := Try.checked) own started (by as_aux_lemma => kernel_rfl) Try.func12
    (ChangeSpec.witness6 (enc := enc) (C := Try.checked) false ⟨#[], #[.slice none 0 0, .int .i64 0], []⟩ 8 (by as_aux_lemma => kernel_rfl) (by as_aux_lemma => kernel_rfl) (by as_aux_lemma => kernel_rfl) (by as_aux_lemma => kernel_rfl)) ?_
  intro W base args ds gs before hval0 hW hcnd _
  have hval : ∀ (j : Nat) t v, Try.f12.params[j]? = some t → args[j]? = some v → Value.okWide Try.prog W .any base t v := hval0
  have hW' := hW
  obtain ⟨p, q, hA0, hV, rfl, hfz, hnd⟩ := hW
  have hA : DataW.TrodAll enc Try.prog W 0 (fun _ => true) true Try.f12.params.toList args.toList ds p := hA0
  rw [Try.params12] at hA hval
  obtain ⟨v0, vs0, d0, ds0, p0, q0, hargs, rfl, rfl, h0, r0⟩ := trodAll_cons hA
  obtain ⟨v1, vs1, d1, ds1, p1, q1, rfl, rfl, rfl, h1, r1⟩ := trodAll_cons r0
  obtain ⟨rfl, rfl, rfl⟩ := trodAll_nil r1
  obtain rfl : args = #[v0, v1] := by cases args; simp_all
  obtain ⟨A0, ads0, ac0, rfl, Ud0, Xd0, Ld0⟩ := open_deeds18 (hval 0 72 v0 rfl rfl) h0
  obtain ⟨a1, rfl, b1, c1⟩ := open_i64 Try.underlying3 (hval 1 3 v1 rfl rfl) h1
  refine (walk A0 ads0 ac0 a1 b1 c1 W Ud0 Xd0 Ld0).mono fun e W' ⟨he, bel⟩ => ?_
  subst he
  exact ⟨_, rfl, law_post laidOut (by as_aux_lemma => kernel_rfl) rfl Try.underlying4 rfl (fun ds hds => by
    match ds, hds with
    | [x0, x1], _ => rfl) hW' bel⟩

theorem closed : joinedFacts Try.prog 12 Try.f12 Rows.ledgerPlaysSpec Rows.ledgerPlaysRow = true := by
  unfold joinedFacts
  simp only [Bool.and_eq_true]
  exact ⟨⟨⟨⟨⟨⟨⟨⟨⟨⟨⟨⟨⟨⟨⟨⟨⟨⟨⟨⟨⟨⟨⟨⟨⟨⟨⟨⟨⟨⟨⟨(by as_aux_lemma => kernel_rfl), laidOut⟩, mapsRowedT⟩, (by as_aux_lemma => kernel_rfl)⟩, (by as_aux_lemma => kernel_rfl)⟩, rfl⟩, stopsN⟩, rfl⟩, stopKnobsN⟩, (by as_aux_lemma => kernel_rfl)⟩, (by as_aux_lemma => kernel_rfl)⟩, (by as_aux_lemma => kernel_rfl)⟩, (by as_aux_lemma => kernel_rfl)⟩, (by as_aux_lemma => kernel_rfl)⟩, (by as_aux_lemma => kernel_rfl)⟩, (by as_aux_lemma => kernel_rfl)⟩, (by as_aux_lemma => kernel_rfl)⟩, (by as_aux_lemma => kernel_rfl)⟩, (by as_aux_lemma => kernel_rfl)⟩, (by as_aux_lemma => kernel_rfl)⟩, (by as_aux_lemma => kernel_rfl)⟩, (by as_aux_lemma => kernel_rfl)⟩, plainKeysT⟩, rfl⟩, stopsHeardT⟩, mayEnterT⟩, liftedT⟩, makeT⟩, (by as_aux_lemma => kernel_rfl)⟩, (by as_aux_lemma => kernel_rfl)⟩, (by as_aux_lemma => kernel_rfl)⟩, (by as_aux_lemma => kernel_rfl)⟩

theorem over : Rows.ledgerPlaysRow.holds Try.pinned (OpenSpec.ofChange Rows.ledgerPlaysSpec) :=
  OpenClaim.holds_of_wide 12 Try.f12 rfl rfl rfl rfl rfl rfl rfl ⟨rfl, rfl, rfl, rfl, rfl⟩ rfl rfl rfl rfl rfl (by as_aux_lemma => kernel_rfl) Try.func12 closed
    (of_decide_eq_true (by as_aux_lemma => kernel_rfl)) (by unfold Func.isWrapper; first | (rw [if_pos (by decide +kernel)]; as_aux_lemma => kernel_rfl) | (rw [if_neg (by decide +kernel)]; exact ⟨rfl, rfl⟩))
    (fun os started H enc _ => lifted os started H enc)

theorem proved : Rows.LedgerPlaysSaid := over
#print axioms proved

end ledgerPlays

end Go.Proofs.Ytkemhcokkaanfaa
