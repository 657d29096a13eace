/-
  runq.Queue: Pick, Yield.
-/
import Derived.Test.YtkemhcokkaanfaaQ3
namespace Go.Proofs.Ytkemhcokkaanfaa
open Go.RowKit Go.Maps

theorem at_end {w W : World} {q bm bt : Nat} {S : List Nat} {g : Int → Nat} {X : QS} {K : Int} (h : QMem w q bm bt S g X K) (hB : Below w.heap.size w W) {c : Int} (hc : c = -1 ∨ ∃ x, x ∈ X.L ∧ x.id = c) :
    QTurned w (qblocks q bm S g X) q (X.at_ c) K (W.setCell ⟨q, 2, none⟩ (.int .i64 c)) (qblocks q bm S g X) := by
  have h1 := h.below hB
  have hb : Blk (W.setCell ⟨q, 2, none⟩ (.int .i64 c)) q (qcells bm bt (X.at_ c).cur (X.at_ c).mn (loadL (X.at_ c).L) (X.at_ c).over) 139 := Blk.set h1.blk 2 _
  exact ⟨⟨bm, bt, S, g, h1.turn rfl (h1.ok.at_ hc) hb (fun b _ hne => Below.heap_setCell _ _ _ _ hne), rfl⟩, (Turns.of_below (S := qblocks q bm S g X) hB).setCell (.inl (by simp [qblocks])) _, fun _ h => .inl h⟩
theorem at_same {w W : World} {q bm bt : Nat} {S : List Nat} {g : Int → Nat} {X : QS} {K : Int} (h : QMem w q bm bt S g X K) (hB : Below w.heap.size w W) : QTurned w (qblocks q bm S g X) q X K W (qblocks q bm S g X) :=
  ⟨⟨bm, bt, S, g, h.below hB, rfl⟩, Turns.of_below hB, fun _ h => .inl h⟩
/-- the map's answer at any number -/
theorem QMem.look {w W : World} {q bm bt : Nat} {S : List Nat} {g : Int → Nat} {X : QS} {K : Int} (h : QMem w q bm bt S g X K) (hW : Below w.heap.size w W) (i : Int) (h1 : -9223372036854775808 ≤ i) (h2 : i ≤ 9223372036854775807) :
    (Instr.lookup 135 (.map (some bm)) (.int .i64 i) false).run Try.prog W = .ok (match X.get i with | none => .pointer none | some e => .pointer (some ⟨g e.id, 0, none⟩)) W := by
  have := (h.below hW).map.look (k := i) (wf64 h1 h2)
  rw [this]
  cases hg : X.get i with
  | none =>
    rw [place_out (QS.get_none hg)]
    rfl
  | some e =>
    obtain ⟨he, rfl⟩ := QS.get_some hg
    rw [place_in he]
    unfold ptrV
    rw [if_neg (by omega)]
    rfl
theorem QS.ok.cur_in {X : QS} (h : X.ok) : -9223372036854775808 ≤ X.cur ∧ X.cur ≤ 9223372036854775807 := by
  rcases h.cur with e | ⟨x, hx, e⟩
  · omega
  · have := (h.ents x hx).i1
    have := (h.ents x hx).i2
    omega

set_option maxRecDepth 100000 in
set_option maxHeartbeats 8000000 in
theorem qpick_any {w : World} {q : Nat} {F : List Nat} {X : QS} {K : Int} (h : QAt w q F X K) (gran : Int) (hg1 : -9223372036854775808 ≤ gran) (hg2 : gran ≤ 9223372036854775807) :
    Calls Try.prog 44 #[.pointer (some ⟨q, 0, none⟩), .int .i64 gran] w fun e w' => e = .returned (.int .i64 (X.pickI gran)) ∧ Hid (QTurned w F q (pickQ X gran) K w' F) := by
  obtain ⟨bm, bt, S, g, hM, rfl⟩ := h.ex
  have MF := Lib.hid (qfirst_any hM)
  have HM := Lib.hid hM
  have hci := hM.ok.cur_in
  obtain ⟨cu, hcu⟩ : ∃ cu, cu = X.cur := ⟨_, rfl⟩
  have HCU := Lib.hid hcu
  rw [← hcu] at hci
  have HOK := Lib.hid (hM.ok.pickI_ok gran)
  have HLK := Lib.hid fun (W : World) (hW : Below w.heap.size w W) (n : Nat) => hM.look (below_drewN hW n) cu hci.1 hci.2
  have HQ : Hid (∀ W, Below w.heap.size w W → W.cell? ⟨q, 0, none⟩ = some (.map (some bm)) ∧ W.cell? ⟨q, 2, none⟩ = some (.int .i64 cu) ∧ ∀ j, W.frozen? ⟨q, j, none⟩ = false) := Lib.hid fun W hW => by
    have := (hM.below hW).cells
    exact ⟨this.1, by rw [hcu]; exact this.2.2.1, this.2.2.2.2.2.2⟩
  have HEN : Hid (∀ W, Below w.heap.size w W → ∀ x, x ∈ X.L → W.cell? ⟨g x.id, 0, none⟩ = some (.int .i64 x.id)) := Lib.hid fun W hW x hx => Blk.cell ((hM.below hW).ents x hx) 0
  have HNR : Hid (∀ W, Below w.heap.size w W → ∀ x, x ∈ X.L → ∀ y, y ∈ X.L → Calls Try.prog 95 #[.pointer (some ⟨g x.id, 0, none⟩), .pointer (some ⟨g y.id, 0, none⟩), .int .i64 gran] W fun r w' => r = .returned (.bool (nearB x.v y.v gran)) ∧ Below W.heap.size W w') := Lib.hid fun W hW x hx y hy =>
    qnear_any (g x.id) (g y.id) x y gran hg1 hg2 (hM.ok.ents y hy).v1 (hM.ok.ents y hy).v2 W ((hM.below hW).ents x hx) ((hM.below hW).ents y hy)
  unfold pickQ
  cases hf : X.firstK with
  | none =>
    have HP : Hid (X.pickI gran = cu) := Lib.hid (by unfold QS.pickI; rw [hf]; exact hcu.symm)
    rw [hf] at MF
    replace MF : Hid (Calls Try.prog 94 #[.pointer (some ⟨q, 0, none⟩)] w fun e w' => e = .returned (.pointer none) ∧ Below w.heap.size w w') := MF
    rw [HP.out]
    clear h hM hf hci hcu HOK HNR HEN
    go_enter Try.func44, Try.ntmps44
    go_wp2_with fail
    refine MF.out.mono ?_
    rintro e w1 ⟨rfl, hb⟩
    obtain ⟨c0, c2, cf⟩ := HQ.out w1 hb
    have hl := HLK.out w1 hb
    have HB := Lib.hid hb
    clear hb MF HQ HLK
    go_wp2_with fail
    go_big_quiet (fail)
    go_wp2_with fail
    all_goals
      go_ret
      refine ⟨rfl, ?_⟩
      have := at_same HM.out (below_drewN HB.out nq)
      rw [HCU.out]
      exact this
  | some k =>
    obtain ⟨x, hx, hxi, hxv⟩ := HM.out.ok.first_ent hf
    rw [hf] at MF
    replace MF : Hid (Calls Try.prog 94 #[.pointer (some ⟨q, 0, none⟩)] w fun e w' => e = .returned (.pointer (some ⟨g x.id, 0, none⟩)) ∧ Below w.heap.size w w') := by
      rw [hxi]; exact MF
    cases hgc : X.get X.cur with
    | none =>
      have HP : Hid (X.pickI gran = x.id) := Lib.hid (by unfold QS.pickI; rw [hf, hgc, hxi])
      rw [hcu, hgc] at HLK
      rw [HP.out] at HOK ⊢
      rw [← hcu] at HLK
      have HE1 := Lib.hid fun W (hW : Below w.heap.size w W) => HEN.out W hW x hx
      clear h hM hf hci hcu HNR HEN hx hxi hxv hgc
      go_enter Try.func44, Try.ntmps44
      go_wp2_with fail
      refine MF.out.mono ?_
      rintro e w1 ⟨rfl, hb⟩
      obtain ⟨c0, c2, cf⟩ := HQ.out w1 hb
      have hl := HLK.out w1 hb
      have he := HE1.out w1 hb
      have HB := Lib.hid hb
      clear hb MF HQ HLK HE1
      go_wp2_with fail
      go_big_quiet (fail)
      go_wp2_with fail
      go_ret
      exact ⟨rfl, at_end HM.out (below_drewN HB.out nq) HOK.out⟩
    | some c =>
      obtain ⟨hc, hci2⟩ := QS.get_some hgc
      have HE1 : Hid (∀ W, Below w.heap.size w W → (W.cell? ⟨q, 0, none⟩ = some (.map (some bm)) ∧ W.cell? ⟨q, 2, none⟩ = some (.int .i64 cu) ∧ ∀ j, W.frozen? ⟨q, j, none⟩ = false) ∧ W.cell? ⟨g x.id, 0, none⟩ = some (.int .i64 x.id)) := Lib.hid fun W hW => ⟨HQ.out W hW, HEN.out W hW x hx⟩
      obtain ⟨nb, hnb⟩ : ∃ nb, nb = nearB c.v x.v gran := ⟨_, rfl⟩
      have HNB : Hid (X.pickI gran = if nb then cu else x.id) := Lib.hid (by unfold QS.pickI; rw [hf, hgc, hnb, hxv, hcu, hxi])
      have HN1 : Hid (∀ W, Below w.heap.size w W → Calls Try.prog 95 #[.pointer (some ⟨g c.id, 0, none⟩), .pointer (some ⟨g x.id, 0, none⟩), .int .i64 gran] W fun r w' => r = .returned (.bool nb) ∧ Hid (Below w.heap.size w w')) := Lib.hid fun W hW => (HNR.out W hW c hc x hx).mono fun r w' hp => ⟨by rw [hnb]; exact hp.1, hW.trans (hp.2.mono hW.size)⟩
      rw [hcu, hgc] at HLK
      rw [← hcu] at HLK
      clear h hM hf hci hcu HNR HEN hx hxi hxv hgc HQ hc hci2 hnb
      cases nb
      · replace HNB : Hid (X.pickI gran = x.id) := HNB
        rw [HNB.out] at HOK ⊢
        go_enter Try.func44, Try.ntmps44
        go_wp2_with fail
        refine MF.out.mono ?_
        rintro e w1 ⟨rfl, hb⟩
        obtain ⟨⟨c0, c2, cf⟩, he⟩ := HE1.out w1 hb
        have hl := HLK.out w1 hb
        have HB := Lib.hid hb
        clear hb MF HLK
        go_wp2_with fail
        go_big_quiet (fail)
        go_wp2_with fail
        refine (HN1.out _ (below_drewN HB.out nq)).mono ?_
        rintro e w5 ⟨rfl, HB5⟩
        obtain ⟨⟨d0, d2, df⟩, de⟩ := HE1.out w5 HB5.out
        clear c0 c2 cf he hl
        go_wp2_with fail
        go_ret
        exact ⟨rfl, at_end HM.out HB5.out HOK.out⟩
      · replace HNB : Hid (X.pickI gran = cu) := HNB
        rw [HNB.out]
        go_enter Try.func44, Try.ntmps44
        go_wp2_with fail
        refine MF.out.mono ?_
        rintro e w1 ⟨rfl, hb⟩
        obtain ⟨⟨c0, c2, cf⟩, he⟩ := HE1.out w1 hb
        have hl := HLK.out w1 hb
        have HB := Lib.hid hb
        clear hb MF HLK
        go_wp2_with fail
        go_big_quiet (fail)
        go_wp2_with fail
        refine (HN1.out _ (below_drewN HB.out nq)).mono ?_
        rintro e w5 ⟨rfl, HB5⟩
        obtain ⟨⟨d0, d2, df⟩, de⟩ := HE1.out w5 HB5.out
        clear c0 c2 cf he hl
        go_wp2_with fail
        go_ret
        refine ⟨rfl, ?_⟩
        have := at_same HM.out HB5.out
        show Hid (QTurned _ _ _ (X.at_ cu) _ _ _)
        rw [HCU.out]
        exact this
theorem qpick_nil (gran : Int) (w : World) : Calls Try.prog 44 #[.pointer none, .int .i64 gran] w fun e w' => e = .returned (.int .i64 (-1)) ∧ w = w' := by
  go_enter Try.func44, Try.ntmps44
  go_wp2_with fail
  go_ret
  exact ⟨rfl, rfl⟩
theorem qyield_nil (gran : Int) (w : World) : Calls Try.prog 45 #[.pointer none, .int .i64 gran] w fun e w' => e = .returned (.int .i64 (-1)) ∧ w = w' := by
  go_enter Try.func45, Try.ntmps45
  go_wp2_with fail
  go_ret
  exact ⟨rfl, rfl⟩

set_option maxRecDepth 100000 in
set_option maxHeartbeats 8000000 in
theorem qyield_any {w : World} {q : Nat} {F : List Nat} {X : QS} {K : Int} (h : QAt w q F X K) (gran : Int) (hg1 : -9223372036854775808 ≤ gran) (hg2 : gran ≤ 9223372036854775807) :
    Calls Try.prog 45 #[.pointer (some ⟨q, 0, none⟩), .int .i64 gran] w fun e w' => e = .returned (.int .i64 (X.yieldI gran)) ∧ Hid (QTurned w F q (yieldQ X gran) K w' F) := by
  obtain ⟨bm, bt, S, g, hM, rfl⟩ := h.ex
  have MF := Lib.hid (qfirst_any hM)
  have HM := Lib.hid hM
  have hci := hM.ok.cur_in
  obtain ⟨cu, hcu⟩ : ∃ cu, cu = X.cur := ⟨_, rfl⟩
  rw [← hcu] at hci
  have HOK := Lib.hid (hM.ok.yieldI_ok gran)
  have HLK := Lib.hid fun (W : World) (hW : Below w.heap.size w W) (n : Nat) => hM.look (below_drewN hW n) cu hci.1 hci.2
  have HQ : Hid (∀ W, Below w.heap.size w W → W.cell? ⟨q, 0, none⟩ = some (.map (some bm)) ∧ W.cell? ⟨q, 2, none⟩ = some (.int .i64 cu) ∧ ∀ j, W.frozen? ⟨q, j, none⟩ = false) := Lib.hid fun W hW => by
    have := (hM.below hW).cells
    exact ⟨this.1, by rw [hcu]; exact this.2.2.1, this.2.2.2.2.2.2⟩
  have HEN : Hid (∀ W, Below w.heap.size w W → ∀ x, x ∈ X.L → W.cell? ⟨g x.id, 0, none⟩ = some (.int .i64 x.id)) := Lib.hid fun W hW x hx => Blk.cell ((hM.below hW).ents x hx) 0
  have HNR : Hid (∀ W, Below w.heap.size w W → ∀ x, x ∈ X.L → ∀ y, y ∈ X.L → Calls Try.prog 95 #[.pointer (some ⟨g x.id, 0, none⟩), .pointer (some ⟨g y.id, 0, none⟩), .int .i64 gran] W fun r w' => r = .returned (.bool (nearB x.v y.v gran)) ∧ Below W.heap.size W w') := Lib.hid fun W hW x hx y hy =>
    qnear_any (g x.id) (g y.id) x y gran hg1 hg2 (hM.ok.ents y hy).v1 (hM.ok.ents y hy).v2 W ((hM.below hW).ents x hx) ((hM.below hW).ents y hy)
  have HPK : Hid (∀ W, Below w.heap.size w W → Calls Try.prog 44 #[.pointer (some ⟨q, 0, none⟩), .int .i64 gran] W fun e w' => e = .returned (.int .i64 (X.pickI gran)) ∧ Hid (QTurned w (qblocks q bm S g X) q (pickQ X gran) K w' (qblocks q bm S g X))) := Lib.hid fun W hW =>
    (qpick_any (h.below hW) gran hg1 hg2).mono fun e w' hp => ⟨hp.1, (at_same hM hW).trans hp.2.out⟩
  unfold yieldQ
  unfold pickQ at HPK
  cases hgc : X.get X.cur with
  | none =>
    have HY : Hid (X.yieldI gran = X.pickI gran) := Lib.hid (by
      unfold QS.yieldI
      rw [hgc]
      cases X.firstK <;> rfl)
    rw [HY.out]
    rw [hcu, hgc] at HLK
    rw [← hcu] at HLK
    obtain ⟨ov, hov⟩ : ∃ ov, ov = ptrOf g X.firstK := ⟨_, rfl⟩
    rw [← hov] at MF
    clear h hM hci hcu HNR HEN hgc hov HOK
    go_enter Try.func45, Try.ntmps45
    go_wp2_with fail
    refine MF.out.mono ?_
    rintro e w1 ⟨rfl, hb⟩
    obtain ⟨c0, c2, cf⟩ := HQ.out w1 hb
    have hl := HLK.out w1 hb
    have HB := Lib.hid hb
    clear hb MF HQ HLK
    go_wp2_with fail
    go_big_quiet (fail)
    go_wp2_with fail
    refine (HPK.out _ (below_drewN HB.out nq)).mono ?_
    rintro e w5 ⟨rfl, HT⟩
    go_wp2_with fail
    go_ret
    exact ⟨rfl, HT.out⟩
  | some c =>
    obtain ⟨hc, hci2⟩ := QS.get_some hgc
    rw [hcu, hgc] at HLK
    rw [← hcu] at HLK
    cases hf : X.firstK with
    | none =>
      have HY : Hid (X.yieldI gran = X.pickI gran) := Lib.hid (by
        unfold QS.yieldI
        rw [hf])
      rw [HY.out]
      rw [hf] at MF
      replace MF : Hid (Calls Try.prog 94 #[.pointer (some ⟨q, 0, none⟩)] w fun e w' => e = .returned (.pointer none) ∧ Below w.heap.size w w') := MF
      clear h hM hci hcu HNR HEN hgc hf HOK hc hci2
      go_enter Try.func45, Try.ntmps45
      go_wp2_with fail
      refine MF.out.mono ?_
      rintro e w1 ⟨rfl, hb⟩
      obtain ⟨c0, c2, cf⟩ := HQ.out w1 hb
      have hl := HLK.out w1 hb
      have HB := Lib.hid hb
      clear hb MF HQ HLK
      go_wp2_with fail
      go_big_quiet (fail)
      go_wp2_with fail
      refine (HPK.out _ (below_drewN HB.out nq)).mono ?_
      rintro e w5 ⟨rfl, HT⟩
      go_wp2_with fail
      go_ret
      exact ⟨rfl, HT.out⟩
    | some k =>
      obtain ⟨x, hx, hxi, hxv⟩ := HM.out.ok.first_ent hf
      rw [hf] at MF
      replace MF : Hid (Calls Try.prog 94 #[.pointer (some ⟨q, 0, none⟩)] w fun e w' => e = .returned (.pointer (some ⟨g x.id, 0, none⟩)) ∧ Below w.heap.size w w') := by
        rw [hxi]; exact MF
      have HE1 : Hid (∀ W, Below w.heap.size w W → (W.cell? ⟨q, 0, none⟩ = some (.map (some bm)) ∧ W.cell? ⟨q, 2, none⟩ = some (.int .i64 cu) ∧ ∀ j, W.frozen? ⟨q, j, none⟩ = false) ∧ W.cell? ⟨g x.id, 0, none⟩ = some (.int .i64 x.id)) := Lib.hid fun W hW => ⟨HQ.out W hW, HEN.out W hW x hx⟩
      obtain ⟨nb, hnb⟩ : ∃ nb, nb = nearB x.v c.v gran := ⟨_, rfl⟩
      have HNB : Hid (X.yieldI gran = if nb then x.id else X.pickI gran) := Lib.hid (by unfold QS.yieldI; rw [hf, hgc, hnb, hxv, hxi])
      have HN1 : Hid (∀ W, Below w.heap.size w W → Calls Try.prog 95 #[.pointer (some ⟨g x.id, 0, none⟩), .pointer (some ⟨g c.id, 0, none⟩), .int .i64 gran] W fun r w' => r = .returned (.bool nb) ∧ Hid (Below w.heap.size w w')) := Lib.hid fun W hW => (HNR.out W hW x hx c hc).mono fun r w' hp => ⟨by rw [hnb]; exact hp.1, hW.trans (hp.2.mono hW.size)⟩
      clear h hM hf hci hcu HNR HEN hx hxi hxv hgc HQ hc hci2 hnb
      cases nb
      · replace HNB : Hid (X.yieldI gran = X.pickI gran) := HNB
        rw [HNB.out]
        go_enter Try.func45, Try.ntmps45
        go_wp2_with fail
        refine MF.out.mono ?_
        rintro e w1 ⟨rfl, hb⟩
        obtain ⟨⟨c0, c2, cf⟩, he⟩ := HE1.out w1 hb
        have hl := HLK.out w1 hb
        have HB := Lib.hid hb
        clear hb MF HLK
        go_wp2_with fail
        go_big_quiet (fail)
        go_wp2_with fail
        refine (HN1.out _ (below_drewN HB.out nq)).mono ?_
        rintro e w5 ⟨rfl, HB5⟩
        go_wp2_with fail
        refine (HPK.out _ HB5.out).mono ?_
        rintro e w6 ⟨rfl, HT⟩
        go_wp2_with fail
        go_ret
        exact ⟨rfl, HT.out⟩
      · replace HNB : Hid (X.yieldI gran = x.id) := HNB
        rw [HNB.out] at HOK ⊢
        go_enter Try.func45, Try.ntmps45
        go_wp2_with fail
        refine MF.out.mono ?_
        rintro e w1 ⟨rfl, hb⟩
        obtain ⟨⟨c0, c2, cf⟩, he⟩ := HE1.out w1 hb
        have hl := HLK.out w1 hb
        have HB := Lib.hid hb
        clear hb MF HLK
        go_wp2_with fail
        go_big_quiet (fail)
        go_wp2_with fail
        refine (HN1.out _ (below_drewN HB.out nq)).mono ?_
        rintro e w5 ⟨rfl, HB5⟩
        obtain ⟨⟨d0, d2, df⟩, de⟩ := HE1.out w5 HB5.out
        clear c0 c2 cf he hl
        go_wp2_with fail
        go_ret
        exact ⟨rfl, at_end HM.out HB5.out HOK.out⟩

end Go.Proofs.Ytkemhcokkaanfaa
