/-
  runq.Queue: first, Pick, Yield.
-/
import Derived.Test.YtkemhcokkaanfaaQn
namespace Go.Proofs.Ytkemhcokkaanfaa
open Go.RowKit Go.Maps

/-- what stands behind is walked in any such world -/
theorem wp_world {P : Program} {c : Code} {Q : Exit → Act → World → Prop} {a : Act} {w : World} (R : World → Prop) (h : R w) (k : ∀ W, R W → c.wp P Q a W) : c.wp P Q a w := k w h
def ptrOf (g : Int → Nat) : Option (Int × Int) → Value
  | none => .pointer none
  | some k => .pointer (some ⟨g k.2, 0, none⟩)
set_option maxRecDepth 100000 in
set_option maxHeartbeats 4000000 in
theorem qfirst_any {w : World} {q bm bt : Nat} {S : List Nat} {g : Int → Nat} {X : QS} {K : Int} (h : QMem w q bm bt S g X K) :
    Calls Try.prog 94 #[.pointer (some ⟨q, 0, none⟩)] w fun e w' => e = .returned (ptrOf g X.firstK) ∧ Below w.heap.size w w' := by
  obtain ⟨c0, c1, c2, c3, c4, c5, cf⟩ := h.cells
  have MT := Lib.hid (tmin_any bt S (ksOf X.L) K w h.tree)
  have HM := Lib.hid h
  -- the map's answer at a key that is there
  have HLK : Hid (∀ W, Below w.heap.size w W → ∀ k, k ∈ ksOf X.L → (Instr.lookup 135 (.map (some bm)) (.int .i64 k.2) false).run Try.prog W = .ok (.pointer (some ⟨g k.2, 0, none⟩)) W) := Lib.hid fun W hW k hk => by
    obtain ⟨x, hx, rfl⟩ := ksOf_ent hk
    have hxo := HM.out.ok.ents x hx
    have := (HM.out.below hW).map.look (k := x.id) (wf64 (by have := hxo.i1; omega) hxo.i2)
    rw [place_in hx] at this
    rw [show (Instr.lookup 135 (.map (some bm)) (.int .i64 x.key.2) false) = Instr.lookup 135 (.map (some bm)) (.int .i64 x.id) false from rfl, this]
    unfold ptrV
    rw [if_neg (by omega)]
    rfl
  clear h
  go_enter Try.func94, Try.ntmps94
  go_wp2_with fail
  refine MT.out.mono ?_
  rintro e w1 ⟨he, hb⟩
  have hM1 := HM.out.below hb
  cases hh : (ksOf X.L).head? with
  | none =>
    rw [hh] at he
    replace he : e = .returned (.tuple #[.agg #[.int .i64 0, .int .i64 0], .bool false]) := he
    subst he
    have HF := Lib.hid (HM.out.ok.firstK_none hh)
    have HB := Lib.hid hb
    clear hh hb hM1 MT c0 c1 c2 c3 c4 c5 cf
    go_wp2_with fail
    go_big_quiet (fail)
    go_wp2_with fail
    go_ret
    exact ⟨by rw [HF.out]; rfl, below_drewN (HB.out.alloc HB.out.size _) _⟩
  | some k =>
    obtain ⟨k1, k2⟩ := k
    rw [hh] at he
    replace he : e = .returned (.tuple #[.agg #[.int .i64 k1, .int .i64 k2], .bool true]) := he
    subst he
    clear c0 c1 c2 c3 c4 c5 cf MT
    obtain ⟨W1, hW1⟩ : ∃ W1, W1 = w1.alloc (.cells #[.int .i64 k1, .int .i64 k2] 144) := ⟨_, rfl⟩
    have hb1 : Below w1.heap.size w1 W1 := by rw [hW1]; exact (Below.refl _ _).alloc (Nat.le_refl _) _
    have hB := Blk.new w1 #[.int .i64 k1, .int .i64 k2] 144
    rw [← hW1] at hB
    have y0 : W1.cell? ⟨w1.heap.size, 0, none⟩ = some (.int .i64 k1) := Blk.cell hB 0
    have y1 : W1.cell? ⟨w1.heap.size, 1, none⟩ = some (.int .i64 k2) := Blk.cell hB 1
    have yf := Blk.frozen hB
    have hM2 := hM1.below hb1
    obtain ⟨c0, c1, c2, c3, c4, c5, cf⟩ := hM2.cells
    have HB := Lib.hid (hb.trans (hb1.mono hb.size))
    have hm : (k1, k2) ∈ ksOf X.L := List.mem_of_mem_head? (by rw [hh]; rfl)
    have HW1 := Lib.hid hW1
    by_cases hc : k2 = X.cur
    · have HN := Lib.hid (HM.out.ok.firstK_next hh hc)
      have MN := Lib.hid fun W (hW : Below W1.heap.size W1 W) => (tnext_any bt S (ksOf X.L) K k1 k2 W (hM2.tree.below hW)).mono (R' := fun e w5 => e = .returned (keyOpt X.firstK) ∧ (w5.cell? ⟨w1.heap.size, 0, none⟩ = some (.int .i64 k1) ∧ w5.cell? ⟨w1.heap.size, 1, none⟩ = some (.int .i64 k2) ∧ ∀ j, w5.frozen? ⟨w1.heap.size, j, none⟩ = false) ∧ Hid (Below W1.heap.size W1 w5 ∧ Blk w5 w1.heap.size #[.int .i64 k1, .int .i64 k2] 144)) fun e w5 hp => by
        obtain ⟨rfl, hbw⟩ := hp
        have hB5 := hW.trans (hbw.mono hW.size)
        have hK := hB.below hB5 hB.lt
        exact ⟨by rw [HN.out], ⟨Blk.cell hK 0, Blk.cell hK 1, Blk.frozen hK⟩, hB5, hK⟩
      obtain ⟨cu, hcu⟩ : ∃ cu, cu = X.cur := ⟨_, rfl⟩
      rw [← hcu] at c2 hc
      subst hc
      have HH := Lib.hid (And.intro hh hcu)
      have hw1 : w1.heap.size < W1.heap.size := hB.lt
      have hwz : w.heap.size ≤ w1.heap.size := hb.size
      clear hh hb hM1 hb1 hB hM2 hW1 hm hcu
      go_wp2_with fail
      rw [← HW1.out]
      clear HW1
      go_big_quiet (fail)
      go_wp2_with fail
      cases hf : X.firstK with
      | none =>
        rw [hf] at MN
        have MN : Hid (∀ W, Below W1.heap.size W1 W → Calls Try.prog 130 #[.pointer (some ⟨bt, 0, none⟩), keyV (k1, k2)] W fun e w5 => e = .returned (.tuple #[.agg #[.int .i64 0, .int .i64 0], .bool false]) ∧ (w5.cell? ⟨w1.heap.size, 0, none⟩ = some (.int .i64 k1) ∧ w5.cell? ⟨w1.heap.size, 1, none⟩ = some (.int .i64 k2) ∧ ∀ j, w5.frozen? ⟨w1.heap.size, j, none⟩ = false) ∧ Hid (Below W1.heap.size W1 w5 ∧ Blk w5 w1.heap.size #[.int .i64 k1, .int .i64 k2] 144)) := MN
        have HF := Lib.hid hf
        clear hf
        go_region_with (go_at_call 130; refine (MN.out _ (by first | exact (below_drewN (Below.refl _ _) _).drew | exact below_drewN (Below.refl _ _) _)).mono ?_; rintro e w5 ⟨rfl, ⟨x3, x4, x5⟩, hB5⟩)
        all_goals
          go_wp2_with fail
          go_ret
          exact ⟨by rw [HF.out]; rfl, (HB.out.trans ((hB5.out.1.mono (by have := HB.out.size; omega)))).setCell (by simpa using hwz) _ |>.setCell (by simpa using hwz) _⟩
      | some k =>
        obtain ⟨n1, n2⟩ := k
        rw [hf] at MN
        have MN : Hid (∀ W, Below W1.heap.size W1 W → Calls Try.prog 130 #[.pointer (some ⟨bt, 0, none⟩), keyV (k1, k2)] W fun e w5 => e = .returned (.tuple #[.agg #[.int .i64 n1, .int .i64 n2], .bool true]) ∧ (w5.cell? ⟨w1.heap.size, 0, none⟩ = some (.int .i64 k1) ∧ w5.cell? ⟨w1.heap.size, 1, none⟩ = some (.int .i64 k2) ∧ ∀ j, w5.frozen? ⟨w1.heap.size, j, none⟩ = false) ∧ Hid (Below W1.heap.size W1 w5 ∧ Blk w5 w1.heap.size #[.int .i64 k1, .int .i64 k2] 144)) := MN
        have HF := Lib.hid (And.intro hf (QS.firstK_mem hf).1)
        clear hf
        go_region_with (go_at_call 130; refine (MN.out _ (by first | exact (below_drewN (Below.refl _ _) _).drew | exact below_drewN (Below.refl _ _) _)).mono ?_; rintro e w5 ⟨rfl, ⟨x3, x4, x5⟩, hB5⟩)
        all_goals
          go_wp2_with fail
          refine wp_world (fun W => W.cell? ⟨q, 0, none⟩ = some (.map (some bm)) ∧ W.cell? ⟨w1.heap.size, 1, none⟩ = some (.int .i64 n2) ∧ Hid (Below w.heap.size w W) ∧ ∀ n, (Instr.lookup 135 (.map (some bm)) (.int .i64 n2) false).run Try.prog (W.drewN n) = .ok (.pointer (some ⟨g n2, 0, none⟩)) (W.drewN n)) ?_ ?_
          · have hX := (HB.out.trans ((hB5.out.1.mono (by have := HB.out.size; omega)))).setCell (p := ⟨w1.heap.size, 0, none⟩) (by simpa using hwz) (.int .i64 n1) |>.setCell (p := ⟨w1.heap.size, 1, none⟩) (by simpa using hwz) (.int .i64 n2)
            exact ⟨(HM.out.below hX).cells.1, Blk.cell (Blk.set (Blk.set hB5.out.2 0 (.int .i64 n1)) 1 (.int .i64 n2)) 1, hX, fun n => HLK.out _ (below_drewN hX n) _ HF.out.2⟩
          · rintro W ⟨v0, v1, HBW, hl⟩
            clear x3 x4 x5 hB5 y0 y1 yf c0 c1 c2 c3 c4 c5 cf
            go_big_quiet (fail)
            go_wp2_with fail
            go_ret
            exact ⟨by rw [HF.out.1]; rfl, below_drewN HBW.out _⟩
    · have HF := Lib.hid (HM.out.ok.firstK_other hh hc)
      have hcc : decide (k2 = X.cur) = false := decide_eq_false hc
      have hl := fun n => HLK.out _ (below_drewN HB.out n) _ hm
      clear hh hb hM1 hb1 hB hM2 hW1 hm
      go_wp2_with fail
      rw [← HW1.out]
      clear HW1
      go_big_quiet (fail)
      go_wp2_with fail
      go_big_quiet (fail)
      go_wp2_with fail
      go_ret
      exact ⟨by rw [HF.out]; rfl, below_drewN (below_drewN HB.out _) _⟩

end Go.Proofs.Ytkemhcokkaanfaa
