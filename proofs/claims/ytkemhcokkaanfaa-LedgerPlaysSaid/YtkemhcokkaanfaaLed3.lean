/-
  ledger.Credit, taken.
-/
import Derived.Test.YtkemhcokkaanfaaLed2
namespace Go.Proofs.Ytkemhcokkaanfaa
open Go.RowKit Go.Maps

theorem PathAt.off {w : World} {p bt bg nt ng : Nat} {t g : Int → Int} {tot : Int} {A : Option Addr} {zs : List Int} (h : BookAt w p bt bg nt ng t g tot) (hp : PathAt w p A zs) (hz : 0 < zs.length) :
    ∃ b off : Nat, A = some ⟨b, off, none⟩ ∧ ∀ w', Turns [p, bt, bg] w w' → ∀ j, j < zs.length → w'.cell? ⟨b, off + j, none⟩ = some (.int .i64 (zs.getD j 0)) := by
  rcases hp with rfl | ⟨b, off, e, hb, hne, hc⟩
  · simp at hz
  · refine ⟨b, off, e, fun w' ht j hj => (ht.cell (a := ⟨b, off + j, none⟩) hb ?_).trans (hc j hj)⟩
    have hc0 := hc j hj
    intro hm
    simp only [List.mem_cons, List.mem_nil_iff, or_false] at hm
    rcases hm with hm | hm | hm
    · exact hne hm
    · rw [map_no_cell h.ht _ hm] at hc0; cases hc0
    · rw [map_no_cell h.hg _ hm] at hc0; cases hc0

theorem BookAt.turns_self {w w' : World} {p bt bg : Nat} (ht : w.grownBy w' (some bg)) : Turns [p, bt, bg] w w' := (Turns.of_grown ht).mono (by simp)

set_option maxRecDepth 100000 in
set_option maxHeartbeats 2000000 in
theorem credit_ok {p bt bg nt ng : Nat} {t g : Int → Int} {tot : Int} (A : Option Addr) (zs : List Int) (c : Nat) (k ns : Int) (w : World) (h : BookAt w p bt bg nt ng t g tot) (hp : PathAt w p A zs) (hreach : zs.length ≤ 1000) (hok : credArg zs k ns = false) (hroom : ns ≤ 9223372036854775807 - tot)
    (hk1 : k ≤ 9223372036854775807) (hz1 : ∀ z ∈ zs, z ≤ 9223372036854775807) (hnt : nt < 1000000) (hng : ng < 1000000) :
    Calls Try.prog 40 #[.pointer (some ⟨p, 0, none⟩), .slice A zs.length c, .int .i64 k, .int .i64 ns] w fun e w' =>
      e = .returned (.int .i64 0) ∧ BookAt w' p bt bg (nt + 1) (ng + zs.length) (upd t k (t k + ns)) (gAdd g zs ns) (tot + ns) ∧ Turns [p, bt, bg] w w' := by
  have M := Lib.hid (once_any A zs c (by omega) w hp.ints)
  unfold credArg at hok
  simp only [Bool.or_eq_false_iff, Bool.not_eq_false'] at hok
  obtain ⟨⟨t1, t2⟩, t3⟩ := hok
  rw [t3] at M
  unfold onceB at t3
  simp only [Bool.and_eq_true, decide_eq_true_eq] at t3
  obtain ⟨hz0, hnd⟩ := t3
  have hns0 : 0 ≤ ns := by simpa using t1
  have hk0 : 0 ≤ k := by simpa using t2
  have hkw : (Lit.int .i64 k).wf = true := wf64 (by omega) hk1
  have hkey := key64 hkw
  have b0 := h.b0
  have b1 := h.b1
  have htk := h.tb k
  obtain ⟨s, hs⟩ : ∃ s, s = tot + ns := ⟨_, rfl⟩
  rw [← hs]
  have e1 : IntKind.i64.wrap (tot + ns) = s := by rw [IntKind.wrap_i64]; omega
  obtain ⟨tv, htv⟩ : ∃ tv, tv = t k := ⟨_, rfl⟩
  obtain ⟨tv2, htv2⟩ : ∃ tv2, tv2 = tv + ns := ⟨_, rfl⟩
  have e2 : IntKind.i64.wrap (tv + ns) = tv2 := by rw [IntKind.wrap_i64]; omega
  have wf2 : (Lit.int .i64 tv2).wf = true := wf64 (by omega) (by omega)
  obtain ⟨r, hr⟩ : ∃ r, r = 9223372036854775807 - tot := ⟨_, rfl⟩
  have e0 : IntKind.i64.wrap (9223372036854775807 - tot) = r := by rw [IntKind.wrap_i64]; omega
  have t4 : decide (r < ns) = false := decide_eq_false (by omega)
  clear hr
  -- behind once, the total stored
  have H1 := Lib.hid fun w1 (hb : Below w.heap.size w w1) => h.below hb (Nat.le_refl _)
  have HTU : Hid (∀ x, 0 ≤ upd t k tv2 x ∧ upd t k tv2 x ≤ s) := Lib.hid fun x => by
    have := h.tb x
    unfold upd
    split <;> omega
  have HGU : Hid (∀ j x, 0 ≤ gAdd g (zs.take j) ns x ∧ gAdd g (zs.take j) ns x ≤ s) := Lib.hid fun j x => by
    have := h.gb x
    unfold gAdd
    split <;> omega
  have HH := Lib.hid h
  have HP := Lib.hid hp
  have HZ := Lib.hid (And.intro hz0 (And.intro hz1 hnd))
  have HTV := Lib.hid htv
  have HTV2 : Hid (upd t k (t k + ns) = upd t k tv2) := Lib.hid (by rw [htv2, htv])
  have HS := Lib.hid hs
  rw [HTV2.out]
  clear h hp hz0 hz1 hnd htv htv2 hs b0 b1 htk
  obtain ⟨n, hn⟩ : ∃ n, n = zs.length := ⟨_, rfl⟩
  rw [← hn]
  have HN := Lib.hid hn
  rw [← hn] at M hreach
  clear hn
  go_enter Try.func40, Try.ntmps40
  go_wp2_with (first
    | (go_at_call 93; refine M.out.mono ?_; rintro e w1 ⟨rfl, hb⟩; obtain ⟨c0, c1, c2, cf⟩ := (H1.out w1 hb).cells; have hl := ((H1.out w1 hb).ht.of (w' := w1.setCell ⟨p, 2, none⟩ (.int .i64 s)) (Below.heap_setCell _ _ _ _ (map_not_blk (H1.out w1 hb).blk (H1.out w1 hb).ht))).look hkw; rw [← HTV.out] at hl; obtain ⟨D, ho, hf⟩ := ((H1.out w1 hb).ht.of (w' := w1.setCell ⟨p, 2, none⟩ (.int .i64 s)) (Below.heap_setCell _ _ _ _ (map_not_blk (H1.out w1 hb).blk (H1.out w1 hb).ht))); have HF := Lib.hid hf; clear hf)
    | (at_mapUpdate; refine wpList_mapUpdate_own _ rfl _ _ _ 153 rfl 3 2 lawI Try.underlying153 _ bt nt D rfl ho (by unfold maxLen; omega) _ _ _ rfl rfl hkey _ [] (plainElem_int Try.underlying2 wf2) ?_; intro w2 ho2 hg2; clear hl))
  have h1 := H1.out w1 hb
  have hpt : p ≠ bt := fun e => map_not_blk h1.blk h1.ht e.symm
  have hpg : p ≠ bg := fun e => map_not_blk h1.blk h1.hg e.symm
  have T2 : Turns [p, bt, bg] w w2 := ((Turns.of_below (S := [p, bt, bg]) hb).setCell (p := ⟨p, 2, none⟩) (.inl (by simp)) _).trans ((Turns.of_grown hg2).mono (by simp))
  have B2 : BookAt w2 p bt bg (nt + 1) ng (upd t k tv2) g s :=
    ⟨(Blk.set h1.blk 2 (.int .i64 s)).of (hg2.block p (by simpa [World.setCell] using h1.blk.lt) (by intro e; injection e with e; exact hpt e)), MapF.put ho HF.out ho2,
      (h1.hg.of (Below.heap_setCell _ _ _ _ (Ne.symm hpg))).of (hg2.block bg (by simpa [World.setCell] using h1.hg.lt) (by intro e; injection e with e; exact h1.ne e.symm)), h1.ne, HTU.out, fun x => by
        have := HGU.out 0 x
        rw [List.take_zero, gAdd_nil] at this
        exact this, by have := HS.out; have := h1.b0; omega, by have := HS.out; omega⟩
  clear c0 c1 c2 cf ho ho2 hg2 h1 HF hb M H1
  go_loopw [10, 53] (fun s10 s53 wr => ∃ j : Nat, j ≤ n ∧ s53 = .int .i64 j ∧ BookAt wr p bt bg (nt + 1) (ng + j) (upd t k tv2) (gAdd g (zs.take j) ns) s ∧ Turns [p, bt, bg] w wr) (fun _ s53 _ => n - (intOf s53).toNat)
  case atStart => exact ⟨0, by omega, rfl, by rw [List.take_zero, gAdd_nil]; exact B2, T2⟩
  case round =>
    obtain ⟨j, hj, rfl, B, T⟩ := hrel
    have i0 : (0 : Int) ≤ (j : Int) := Int.natCast_nonneg _
    by_cases hlt : j < n
    · have hjz : j < zs.length := by rw [← HN.out]; exact hlt
      obtain ⟨b, off, rfl, hcell⟩ := PathAt.off HH.out HP.out (by omega)
      have hcz := hcell wr T j hjz
      obtain ⟨hz0, hz1, hnd⟩ := HZ.out
      have ez : zs.getD j 0 = zs[j] := by rw [List.getD_eq_getElem?_getD, List.getElem?_eq_getElem hjz]; rfl
      have hzm : zs.getD j 0 ∈ zs := by rw [ez]; exact List.getElem_mem _
      have htk : zs.take (j + 1) = zs.take j ++ [zs.getD j 0] := by rw [ez]; exact (List.take_append_getElem hjz).symm
      have hnot : zs.getD j 0 ∉ zs.take j := by
        intro hm
        have h2 : (zs.take (j + 1)).Nodup := hnd.sublist (List.take_sublist _ _)
        rw [htk] at h2
        exact (List.nodup_append.1 h2).2.2 _ hm _ (by simp) rfl
      have hgs := gAdd_snoc g (zs.take j) (zs.getD j 0) ns hnot
      rw [← htk] at hgs
      have hb1 := HGU.out (j + 1) (zs.getD j 0)
      have hb0 := HGU.out j (zs.getD j 0)
      rw [hgs, upd_same] at hb1
      have hzw : (Lit.int .i64 (zs.getD j 0)).wf = true := wf64 (by have := hz0 _ hzm; omega) (hz1 _ hzm)
      have hs1 : s ≤ 9223372036854775807 := B.b1
      obtain ⟨c0, c1, c2, cf⟩ := B.cells
      have hl := B.hg.look hzw
      obtain ⟨D, ho, hf⟩ := B.hg
      have HF := Lib.hid hf
      have HB := Lib.hid B
      have HT := Lib.hid T
      have hkz := key64 hzw
      have HGS := Lib.hid hgs
      clear hf B T hcell ez hzm htk hnot hz0 hz1 hnd hgs
      generalize zs.getD j 0 = z at *
      obtain ⟨gv, hgv⟩ : ∃ gv, gv = gAdd g (zs.take j) ns z := ⟨_, rfl⟩
      rw [← hgv] at hl hb1 hb0
      obtain ⟨gv2, hgv2⟩ : ∃ gv2, gv2 = gv + ns := ⟨_, rfl⟩
      rw [← hgv2] at hb1
      have e3 : IntKind.i64.wrap (gv + ns) = gv2 := by rw [IntKind.wrap_i64]; omega
      have wf3 : (Lit.int .i64 gv2).wf = true := wf64 (by omega) (by omega)
      have HG2 : Hid (gAdd g (zs.take (j + 1)) ns = upd (gAdd g (zs.take j) ns) z gv2) := Lib.hid (by rw [HGS.out, hgv2, hgv])
      clear hgv hgv2 HGS
      have i1 : (j : Int) < (n : Int) := by omega
      go_wp2_with (at_mapUpdate; refine wpList_mapUpdate_own _ rfl _ _ _ 153 rfl 3 2 lawI Try.underlying153 _ bg (ng + j) D rfl ho (by unfold maxLen; omega) _ _ _ rfl rfl hkz _ [] (plainElem_int Try.underlying2 wf3) ?_; intro w3 ho3 hg3)
      go_roundw
      case rel =>
        have B := HB.out
        refine ⟨j + 1, by omega, by go_num, ?_, HT.out.trans ((Turns.of_grown hg3).mono (by simp))⟩
        rw [HG2.out]
        exact ⟨B.blk.of (hg3.block p B.blk.lt (by intro e; injection e with e; exact hpg e)), B.ht.of (hg3.block bt B.ht.lt (by intro e; injection e with e; exact B.ne e)), MapF.put ho HF.out ho3, B.ne, B.tb, fun x => by
          have := HGU.out (j + 1) x
          rw [HG2.out] at this
          exact this, B.b0, B.b1⟩
      case measure => simp [intOf]; omega
    · obtain rfl : j = n := by omega
      rw [HN.out, List.take_length, ← HN.out] at B
      go_wp2_with fail
      go_ret
      exact ⟨rfl, B, T⟩

end Go.Proofs.Ytkemhcokkaanfaa
