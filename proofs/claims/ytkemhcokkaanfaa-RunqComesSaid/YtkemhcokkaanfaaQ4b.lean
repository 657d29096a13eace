/-
  runq.Queue: Put.
-/
import Derived.Test.YtkemhcokkaanfaaQ4
namespace Go.Proofs.Ytkemhcokkaanfaa
open Go.RowKit Go.Maps

theorem qput_nil (e : En) (w : World) : Calls Try.prog 32 #[.pointer none, enV e] w fun r w' => r = .returned (.int .i64 12) ∧ Below w.heap.size w w' := by
  go_enter_defers Try.func32, Try.ntmps32
  go_wp2_with fail
  exact ⟨_, results_tmp rfl _ _ _, rfl, (Below.refl _ _).alloc (Nat.le_refl _) _⟩

set_option maxRecDepth 100000 in
set_option maxHeartbeats 16000000 in
theorem qput_any {w : World} {q : Nat} {F : List Nat} {X : QS} {K : Int} (h : QAt w q F X K) (hK : K + 1000 ≤ 1000000000000000) (e : En) (i1 : -9223372036854775808 ≤ e.id) (i2 : e.id ≤ 9223372036854775807) (v1 : -9223372036854775808 ≤ e.v) (v2 : e.v ≤ 9223372036854775807) (w2 : e.wt < 18446744073709551616) (r2 : e.rem < 18446744073709551616) :
    Calls Try.prog 32 #[.pointer (some ⟨q, 0, none⟩), enV e] w fun r w' => ∃ F', r = .returned (.int .i64 (putC X e)) ∧ Hid (QTurned w F q (putQ X e) (K + 1000) w' F') := by
  obtain ⟨W1, hW1⟩ : ∃ W1, W1 = w.alloc (.cells (ecells e) 52) := ⟨_, rfl⟩
  have hb1 : Below w.heap.size w W1 := by rw [hW1]; exact (Below.refl _ _).alloc (Nat.le_refl _) _
  have hBx : Blk W1 w.heap.size (ecells e) 52 := by rw [hW1]; exact Blk.new _ _ _
  have hk1 : 1 ≤ K := by
    obtain ⟨bm, bt, S, g, hM, _⟩ := h.ex
    exact hM.k1
  have HS := Lib.hid (QTurned.same h hb1 (show K ≤ K + 1000 by omega) hK)
  have HSD := Lib.hid fun n => QTurned.same h (below_drewN hb1 n) (show K ≤ K + 1000 by omega) hK
  have HW1 := Lib.hid hW1
  have MM := Lib.hid fun W => qmay_any e.wt w2 W
  by_cases k1 : e.id < 0
  · have hp : putC X e = 1 := if_pos k1
    have hq : putQ X e = X := by unfold putQ; rw [hp]; rfl
    have z1 : decide (e.id < 0) = true := decide_eq_true k1
    rw [hp, hq]
    clear h hb1 hBx hW1 hp hq
    go_enter_defers Try.func32, Try.ntmps32
    go_wp2_with fail
    rw [← HW1.out]
    exact ⟨_, results_tmp rfl _ _ _, _, rfl, HS.out⟩
  by_cases k2 : e.wt < 2 ∨ 262144 < e.wt
  · have hp : putC X e = 4 := by unfold putC; rw [if_neg k1, if_pos k2]
    have hq : putQ X e = X := by unfold putQ; rw [hp]; rfl
    have z1 : decide (e.id < 0) = false := decide_eq_false k1
    rw [show decide (2 ≤ e.wt ∧ e.wt ≤ 262144) = false from decide_eq_false (by omega)] at MM
    rw [hp, hq]
    clear h hb1 hBx hW1 hp hq
    go_enter_defers Try.func32, Try.ntmps32
    go_wp2_with (go_at_call 84; refine (MM.out _).mono ?_; rintro r w2 ⟨rfl, rfl⟩)
    rw [← HW1.out]
    exact ⟨_, results_tmp rfl _ _ _, _, rfl, HS.out⟩
  rw [show decide (2 ≤ e.wt ∧ e.wt ≤ 262144) = true from decide_eq_true (by omega)] at MM
  have z1 : decide (e.id < 0) = false := decide_eq_false k1
  by_cases k3 : e.wt ≤ e.rem
  · have hp : putC X e = 1 := by unfold putC; rw [if_neg k1, if_neg k2, if_pos k3]
    have hq : putQ X e = X := by unfold putQ; rw [hp]; rfl
    have z2 : decide ((e.wt : Int) ≤ (e.rem : Int)) = true := decide_eq_true (by omega)
    have z3 : decide (e.wt ≤ e.rem) = true := decide_eq_true k3
    rw [hp, hq]
    clear h hb1 hBx hW1 hp hq
    go_enter_defers Try.func32, Try.ntmps32
    go_wp2_with (go_at_call 84; refine (MM.out _).mono ?_; rintro r w2 ⟨rfl, rfl⟩)
    rw [← HW1.out]
    exact ⟨_, results_tmp rfl _ _ _, _, rfl, HS.out⟩
  have z2 : decide ((e.wt : Int) ≤ (e.rem : Int)) = false := decide_eq_false (by omega)
  have z3 : decide (e.wt ≤ e.rem) = false := decide_eq_false k3
  obtain ⟨bm, bt, S, g, hM, rfl⟩ := h.ex
  have hM1 := hM.below hb1
  obtain ⟨c0, c1, c2, c3, c4, c5, cf⟩ := hM1.cells
  have hl := fun n => hM.look (below_drewN hb1 n) e.id i1 i2
  have b0 : W1.cell? ⟨w.heap.size, 0, none⟩ = some (.int .i64 e.id) := Blk.cell hBx 0
  have b1 : W1.cell? ⟨w.heap.size, 1, none⟩ = some (.int .u64 e.wt) := Blk.cell hBx 1
  by_cases k4 : e.id ∈ X.L.map (·.id)
  · have hp : putC X e = 6 := by unfold putC; rw [if_neg k1, if_neg k2, if_neg k3, if_pos k4]
    have hq : putQ X e = X := by unfold putQ; rw [hp]; rfl
    obtain ⟨y, hy⟩ : ∃ y, X.get e.id = some y := by
      cases hg : X.get e.id with
      | none => exact absurd k4 (QS.get_none hg)
      | some y => exact ⟨y, rfl⟩
    rw [hy] at hl
    rw [hp, hq]
    clear h hb1 hBx hW1 hp hq hM hM1 hy k4
    go_enter_defers Try.func32, Try.ntmps32
    go_wp2_with (go_at_call 84; refine (MM.out _).mono ?_; rintro r w2 ⟨rfl, rfl⟩)
    rw [← HW1.out]
    go_big_quiet (fail)
    go_wp2_with fail
    exact ⟨_, results_tmp rfl _ _ _, _, rfl, HSD.out _⟩
  have hy : X.get e.id = none := by
    cases hg : X.get e.id with
    | none => rfl
    | some y => exact absurd (List.mem_map.2 ⟨y, (QS.get_some hg).1, (QS.get_some hg).2⟩) k4
  rw [hy] at hl
  have hlen := fun n ty => (hM.below (below_drewN hb1 n)).map.len ty
  have HLE := Lib.hid hM.ok.len
  by_cases k5 : X.L.length = 128
  · have hp : putC X e = 3 := by unfold putC; rw [if_neg k1, if_neg k2, if_neg k3, if_neg k4, if_pos k5]
    have hq : putQ X e = X := by unfold putQ; rw [hp]; rfl
    rw [k5] at hlen
    rw [hp, hq]
    clear h hb1 hBx hW1 hp hq hM hM1 hy k4
    go_enter_defers Try.func32, Try.ntmps32
    go_wp2_with (go_at_call 84; refine (MM.out _).mono ?_; rintro r w2 ⟨rfl, rfl⟩)
    rw [← HW1.out]
    go_big_quiet (fail)
    go_wp2_with fail
    exact ⟨_, results_tmp rfl _ _ _, _, rfl, HSD.out _⟩
  have hp : putC X e = 0 := by unfold putC; rw [if_neg k1, if_neg k2, if_neg k3, if_neg k4, if_neg k5]
  have hq : putQ X e = (X.add e).raise := if_pos hp
  have z5 : decide ((X.L.length : Int) = 128) = false := decide_eq_false (by omega)
  have z6 : decide (X.L.length = 128) = false := decide_eq_false k5
  rw [hp, hq]
  have HM := Lib.hid hM
  have HB1 := Lib.hid hb1
  have HBX := Lib.hid hBx
  have HK4 := Lib.hid k4
  obtain ⟨D, ho, hf, hh, hs⟩ := hM1.map
  have HD := Lib.hid (And.intro hf (And.intro hh hs))
  have hkey := key64 (wf64 i1 i2)
  clear hW1 hp hq hM1 hy h hb1 hBx k4 hM hf hh hs
  go_enter_defers Try.func32, Try.ntmps32
  go_wp2_with (go_at_call 84; refine (MM.out _).mono ?_; rintro r w2 ⟨rfl, rfl⟩)
  rw [← HW1.out]
  go_big_quiet (fail)
  go_wp2_with fail
  refine wp_world (fun W => Hid (Below w.heap.size w W ∧ Blk W w.heap.size (ecells e) 52) ∧ W.cell? ⟨q, 0, none⟩ = some (.map (some bm)) ∧ W.cell? ⟨w.heap.size, 0, none⟩ = some (.int .i64 e.id) ∧ W.drew.ownsMap Try.prog 3 readP bm X.L.length D) ⟨⟨below_drewN HB1.out nq, HBX.out.of rfl⟩, c0, b0, ho⟩ ?_
  clear c0 c1 c2 c3 c4 c5 cf b0 b1 hl hlen ho
  rintro W2 ⟨HB2, c0, b0, ho⟩
  go_still_tail 6, (by kernel_rfl)
  change wpList _ _ _ _ _ (W2.drew)
  go_wp2_with (at_mapUpdate; refine wpList_mapUpdate_own _ rfl _ _ _ 135 rfl 3 141 lawI Try.underlying135 _ bm X.L.length D rfl ho (by have := HLE.out; unfold maxLen; omega) _ _ _ rfl rfl hkey (.lit (.int .i64 (w.heap.size : Nat))) [] rfl ?_; intro w2 ho2 hg2)
  obtain ⟨hf, hh, hs⟩ := HD.out
  have P2 := HM.out.put_mid HB2.out.1.drew (Nat.le_refl _) (HB2.out.2.of rfl) HK4.out ho hf hh hs ho2 hg2
  obtain ⟨ld, hld⟩ : ∃ ld, ld = loadL X.L := ⟨_, rfl⟩
  have hldb := HM.out.ok.load
  have q1 : w2.cell? ⟨q, 1, none⟩ = some (.pointer (some ⟨bt, 0, none⟩)) := Blk.cell P2.blk 1
  have HP2 := Lib.hid P2
  have hmem : e ∈ X.L ++ [e] := by simp
  have hbx := P2.ents e hmem
  have hgg : (if e.id = e.id then w.heap.size else g e.id) = w.heap.size := if_pos rfl
  replace hbx : Blk w2 w.heap.size (ecells e) 52 := by
    have := hbx
    rw [hgg] at this
    exact this
  have MK := Lib.hid fun W (hW : Below w2.heap.size w2 W) => (qkey_any w.heap.size e W (hbx.below hW hbx.lt)).mono (R' := fun r w' => r = .returned (keyV e.key) ∧ w'.cell? ⟨q, 1, none⟩ = some (.pointer (some ⟨bt, 0, none⟩)) ∧ Hid (Below w2.heap.size w2 w')) fun r w' hp => by
    have hB := hW.trans (hp.2.mono hW.size)
    exact ⟨hp.1, Blk.cell (P2.below hB).blk 1, hB⟩
  have hkl : (ksOf X.L).length ≤ 128 := Nat.le_trans (ksOf_len _) HLE.out
  have MI := Lib.hid fun W (hW : Below w2.heap.size w2 W) => (insert_any bt S (ksOf X.L) K e.v e.id W (P2.below hW).tree hk1 (by omega)).mono (R' := fun r w5 => ∃ bb, r = .returned (.bool bb) ∧ (w5.cell? ⟨q, 4, none⟩ = some (.int .u64 (ld : Nat)) ∧ w5.frozen? ⟨q, 4, none⟩ = false ∧ w5.cell? ⟨w.heap.size, 1, none⟩ = some (.int .u64 e.wt)) ∧ Hid (PutTree w q bm bt S g X K (X.L ++ [e]) (fun i => if i = e.id then w.heap.size else g i) (K + 1000) w5)) fun r w5 hp => by
    obtain ⟨S', hr, hT⟩ := hp
    have hT' : TreeTurned W S bt (ksOf (X.L ++ [e])) (K + (ksOf X.L).length + 1) w5 S' := by rw [ksOf_snoc]; exact hT
    have PT := (P2.below hW).tree_turn hT' (by omega)
    have hq5 := (P2.below hW).blk.turns hT.turns ((P2.below hW).tree.not (P2.below hW).blk (by simp) (by simp))
    have hx := hbx.below hW hbx.lt
    have hx5 := hx.turns hT.turns ((P2.below hW).tree.not hx (by simp) (by simp))
    exact ⟨_, hr, ⟨by rw [hld]; exact Blk.cell hq5 4, Blk.frozen hq5 4, Blk.cell hx5 1⟩, PT⟩
  have HLD := Lib.hid (And.intro hld hldb)
  have hz2 := Nat.le_refl w2.heap.size
  clear hf hh hs P2 hld hldb hmem hbx hgg ho ho2 hg2 c0 b0 hkl HB2 HD MM hkey
  refine wp_region_noPanic ?_
  go_region_with (first | (go_at_call 87; refine (MK.out _ (by first | exact (Below.refl _ _).drew | exact Below.refl _ _)).mono ?_; rintro r w3 ⟨rfl, x1, HB3⟩) | (go_at_call 86; refine (MI.out _ (by first | exact HB3.out | exact HB3.out.drew)).mono ?_; rintro r w5 ⟨bb, rfl, ⟨y4, y5, y6⟩, HT⟩))
  all_goals
    refine NoPanic.normal ?_
    have e1 : IntKind.u64.wrap ((ld : Int) + (e.wt : Int)) = ((ld + e.wt : Nat) : Int) := by
      have := HLD.out
      rw [IntKind.wrap_u64]
      omega
    go_wp2_with fail
    go_still_tail 9, (by kernel_rfl)
    change wpList _ _ _ _ _ (w5.drew)
    go_wp2_with fail
    obtain ⟨F', hT⟩ : ∃ F', QTurned w (qblocks q bm S g X) q (X.add e) (K + 1000) (w5.drew.setCell ⟨q, 4, none⟩ (.int .u64 ((ld + e.wt : Nat) : Int))) F' := by
      have hz := putC_ok (X := X) (e := e) i2 ⟨v1, v2⟩ (by
        unfold putC
        rw [if_neg (by omega), if_neg k2, if_neg k3, if_neg HK4.out, if_neg k5])
      have hok := HM.out.ok.add hz.1 hz.2.1 (by have := HLE.out; omega)
      obtain ⟨wm, Sm, hmid, htt, hq5, _⟩ := HT.out.ex
      refine HT.out.done (X' := X.add e) rfl hok (by omega) hK ?_ (fun b hb => Below.heap_setCell _ _ _ _ hb) (((Turns.refl _ _).drew).setCell (.inl (by simp)) _)
      have hl2 : loadL (X.add e).L = ld + e.wt := by
        show loadL (X.L ++ [e]) = _
        rw [loadL_append, HLD.out.1]
        rfl
      rw [hl2]
      have hq6 : Blk w5.drew q (qcells bm bt X.cur X.mn ld X.over) 139 := by rw [HLD.out.1]; exact hq5.of rfl
      exact Blk.set hq6 4 _
    refine leaves_cons (f := 85) (args := #[.pointer (some ⟨q, 0, none⟩)]) (by simp) (by simp [go_sem]) ?_
    refine (raise_d _ hT.at_).mono ?_
    rintro r u' w6 ⟨rfl, rfl, hR⟩
    exact ⟨_, results_tmp rfl _ _ _, _, rfl, hT.trans hR.out⟩

end Go.Proofs.Ytkemhcokkaanfaa
