/-
  runq.Queue: Drop.
-/
import Derived.Test.YtkemhcokkaanfaaQ4b
namespace Go.Proofs.Ytkemhcokkaanfaa
open Go.RowKit Go.Maps

abbrev zeroE : Array Value := #[.int .i64 0, .int .u64 0, .int .i64 0, .int .u64 0]
/-- an entity that is dropped, and what is told -/
def dropV : Option En → Value
  | none => .tuple #[.agg zeroE, .int .i64 12]
  | some e => .tuple #[enV e, .int .i64 0]
theorem ownsMap_of {w w' : World} {b n : Nat} {D : DataW Unit} (h : w.ownsMap Try.prog 3 readP b n D) (e : w'.heap[b]? = w.heap[b]?) : w'.ownsMap Try.prog 3 readP b n D := by
  obtain ⟨es, clock, hb, r⟩ := h
  exact ⟨es, clock, e.trans hb, r⟩
theorem bodyPostD_world {P : Program} {fn : Func} {R : Ending → World → Prop} {e : Exit} {a : Act} {w v : World} (h : w = v) (k : bodyPostD P fn R e a v) : bodyPostD P fn R e a w := h ▸ k
theorem set4_facts (W : World) (r : Nat) (e e0 : En) (w6 : World) (h6 : w6 = ((((W.setCell ⟨r, 0, none⟩ (.int .i64 e.id)).setCell ⟨r, 1, none⟩ (.int .u64 e.wt)).setCell ⟨r, 2, none⟩ (.int .i64 e.v)).setCell ⟨r, 3, none⟩ (.int .u64 e.rem)).drew) (h : Blk W r (ecells e0) 52) :
    Blk w6 r (ecells e) 52 ∧ (∀ b, b ≠ r → w6.heap[b]? = W.heap[b]?) ∧ ∀ S w, Turns S w W → r ∈ S → Turns S w w6 := by
  subst h6
  refine ⟨?_, fun b hb => ?_, fun S w hT hr => ?_⟩
  · have h1 := Blk.set h 0 (.int .i64 e.id)
    have h2 := Blk.set h1 1 (.int .u64 e.wt)
    have h3 := Blk.set h2 2 (.int .i64 e.v)
    exact Blk.set h3 3 (.int .u64 e.rem)
  · have h1 := Below.heap_setCell W ⟨r, 0, none⟩ (.int .i64 e.id) b hb
    have h2 := Below.heap_setCell (W.setCell ⟨r, 0, none⟩ (.int .i64 e.id)) ⟨r, 1, none⟩ (.int .u64 e.wt) b hb
    have h3 := Below.heap_setCell ((W.setCell ⟨r, 0, none⟩ (.int .i64 e.id)).setCell ⟨r, 1, none⟩ (.int .u64 e.wt)) ⟨r, 2, none⟩ (.int .i64 e.v) b hb
    have h4 := Below.heap_setCell (((W.setCell ⟨r, 0, none⟩ (.int .i64 e.id)).setCell ⟨r, 1, none⟩ (.int .u64 e.wt)).setCell ⟨r, 2, none⟩ (.int .i64 e.v)) ⟨r, 3, none⟩ (.int .u64 e.rem) b hb
    exact h4.trans (h3.trans (h2.trans h1))
  · have t1 := hT.setCell (p := ⟨r, 0, none⟩) (.inl hr) (.int .i64 e.id)
    have t2 := t1.setCell (p := ⟨r, 1, none⟩) (.inl hr) (.int .u64 e.wt)
    have t3 := t2.setCell (p := ⟨r, 2, none⟩) (.inl hr) (.int .i64 e.v)
    exact (t3.setCell (p := ⟨r, 3, none⟩) (.inl hr) (.int .u64 e.rem)).drew
set_option maxRecDepth 100000 in
theorem qdrop_nil (i : Int) (w : World) : Calls Try.prog 36 #[.pointer none, .int .i64 i] w fun r w' => r = .returned (dropV none) ∧ Below w.heap.size w w' := by
  go_enter_defers Try.func36, Try.ntmps36
  go_wp2_with fail
  refine ⟨.tuple #[.agg zeroE, .int .i64 12], by simp [results, Try.results36, go_sem], rfl, (Below.refl _ _).alloc (Nat.le_refl _) _⟩

set_option maxRecDepth 100000 in
set_option maxHeartbeats 16000000 in
theorem qdrop_any {w : World} {q : Nat} {F : List Nat} {X : QS} {K : Int} (h : QAt w q F X K) (hK : K + 1000 ≤ 1000000000000000) (i : Int) (i1 : -9223372036854775808 ≤ i) (i2 : i ≤ 9223372036854775807) :
    Calls Try.prog 36 #[.pointer (some ⟨q, 0, none⟩), .int .i64 i] w fun r w' => ∃ F', r = .returned (dropV (X.get i)) ∧ Hid (QTurned w F q (dropQ X i) (K + 1000) w' F') := by
  obtain ⟨bm, bt, S, g, hM, rfl⟩ := h.ex
  have hk1 := hM.k1
  have hb1 : Below w.heap.size w (w.alloc (.cells zeroE 52)) := (Below.refl _ _).alloc (Nat.le_refl _) _
  have hl := hM.look hb1 i i1 i2
  obtain ⟨c0, c1, c2, c3, c4, c5, cf⟩ := hM.cells
  have hqlt : q < w.heap.size := hM.blk.lt
  cases hg : X.get i with
  | none =>
    have hq : dropQ X i = X := if_neg (QS.get_none hg)
    rw [hg] at hl
    rw [hq]
    have H := Lib.hid h
    clear hM hg hq h hb1
    go_enter_defers Try.func36, Try.ntmps36
    go_wp2_with fail
    refine ⟨.tuple #[.agg zeroE, .int .i64 12], by simp [results, Try.results36, go_sem], rfl, _, QTurned.same H.out ((Below.refl _ _).alloc (Nat.le_refl _) _) (by omega) hK⟩
  | some e =>
    obtain ⟨he, rfl⟩ := QS.get_some hg
    have hq : dropQ X e.id = (X.drop e.id).raise := if_pos (List.mem_map.2 ⟨e, he, rfl⟩)
    rw [hg] at hl
    rw [hq]
    have hBe := hM.ents e he
    have helt := hBe.lt
    have y0 : w.cell? ⟨g e.id, 0, none⟩ = some (.int .i64 e.id) := Blk.cell hBe 0
    have y1 : w.cell? ⟨g e.id, 1, none⟩ = some (.int .u64 e.wt) := Blk.cell hBe 1
    have y2 : w.cell? ⟨g e.id, 2, none⟩ = some (.int .i64 e.v) := Blk.cell hBe 2
    have y3 : w.cell? ⟨g e.id, 3, none⟩ = some (.int .u64 e.rem) := Blk.cell hBe 3
    obtain ⟨D, ho, hf, hh, hs⟩ := hM.map
    have hln := len_less hM.ok.ids he
    rw [hln] at hs ho
    have HD := Lib.hid (And.intro hf (And.intro hh hs))
    have hbl := hM.map.lt
    have HM := Lib.hid hM
    have HE := Lib.hid he
    have hkey := key64 (wf64 i1 i2)
    clear hM hg hq h hb1 hf hh hs he hBe hln
    go_enter_defers Try.func36, Try.ntmps36
    go_wp2_with (at_delete; refine wpList_delete_own _ rfl _ _ 135 3 rfl 141 lawI Try.underlying135 _ bm ((lessL X.L e.id).length + 1) D rfl (ownsMap_of ho (((Below.refl _ _).alloc (Nat.le_refl _) _ |>.alloc (Nat.le_of_lt (by simp)) _).block bm hbl)) _ _ rfl hkey ?_; intro w2 ho2 hg2)
    obtain ⟨hf, hh, hs⟩ := HD.out
    have hW0 : Below w.heap.size w ((w.alloc (.cells zeroE 52)).alloc (.cells (ecells e) 52)) := ((Below.refl _ _).alloc (Nat.le_refl _) _).alloc (by simp) _
    have P2 := HM.out.drop_mid hW0 HE.out (ownsMap_of ho (hW0.block bm hbl)) hf hh hs ho2 hg2.grown
    obtain ⟨ld, hld⟩ : ∃ ld, ld = loadL X.L := ⟨_, rfl⟩
    have hldb := HM.out.ok.load
    have hlds := load_less HM.out.ok.ids HE.out
    have q1 : w2.cell? ⟨q, 1, none⟩ = some (.pointer (some ⟨bt, 0, none⟩)) := Blk.cell P2.blk 1
    have hmb : bm ≠ w.heap.size + 1 ∧ bm ≠ w.heap.size := by omega
    have hbx : Blk w2 (w.heap.size + 1) (ecells e) 52 := by
      have h1 := Blk.new (w.alloc (.cells zeroE 52)) (ecells e) 52
      rw [World.size_alloc] at h1
      exact h1.of (hg2.grown.block _ (by simp) (by intro e; injection e with e; omega))
    have hrx : Blk w2 w.heap.size zeroE 52 := by
      have h1 := (Blk.new w zeroE 52).alloc (.cells (ecells e) 52)
      exact h1.of (hg2.grown.block _ (by simp; omega) (by intro e; injection e with e; omega))
    have MK := Lib.hid fun W (hW : Below w2.heap.size w2 W) => (qkey_any (w.heap.size + 1) e W (hbx.below hW hbx.lt)).mono (R' := fun r w' => r = .returned (keyV e.key) ∧ w'.cell? ⟨q, 1, none⟩ = some (.pointer (some ⟨bt, 0, none⟩)) ∧ Hid (Below w2.heap.size w2 w')) fun r w' hp => by
      have hB := hW.trans (hp.2.mono hW.size)
      exact ⟨hp.1, Blk.cell (P2.below hB).blk 1, hB⟩
    have hkl : (ksOf X.L).length ≤ 128 := Nat.le_trans (ksOf_len _) HM.out.ok.len
    obtain ⟨cu, hcu⟩ : ∃ cu, cu = X.cur := ⟨_, rfl⟩
    have MI := Lib.hid fun W (hW : Below w2.heap.size w2 W) => (delete_any bt S (ksOf X.L) K e.v e.id W (P2.below hW).tree hk1 (by omega)).mono (R' := fun r w5 => ∃ bb, r = .returned (.bool bb) ∧ (w5.cell? ⟨q, 4, none⟩ = some (.int .u64 (ld : Nat)) ∧ w5.cell? ⟨q, 2, none⟩ = some (.int .i64 cu) ∧ (∀ j, w5.frozen? ⟨q, j, none⟩ = false) ∧ w5.cell? ⟨w.heap.size + 1, 0, none⟩ = some (.int .i64 e.id) ∧ w5.cell? ⟨w.heap.size + 1, 1, none⟩ = some (.int .u64 e.wt) ∧ w5.cell? ⟨w.heap.size + 1, 2, none⟩ = some (.int .i64 e.v) ∧ w5.cell? ⟨w.heap.size + 1, 3, none⟩ = some (.int .u64 e.rem) ∧
        w5.cell? ⟨w.heap.size, 0, none⟩ = some (.int .i64 0) ∧ w5.cell? ⟨w.heap.size, 1, none⟩ = some (.int .u64 0) ∧ w5.cell? ⟨w.heap.size, 2, none⟩ = some (.int .i64 0) ∧ w5.cell? ⟨w.heap.size, 3, none⟩ = some (.int .u64 0) ∧ ∀ j, w5.frozen? ⟨w.heap.size, j, none⟩ = false) ∧ Hid (PutTree w q bm bt S g X K (lessL X.L e.id) g (K + 1000) w5 ∧ Blk w5 w.heap.size zeroE 52)) fun r w5 hp => by
      obtain ⟨S', hr, hT⟩ := hp
      have hT' : TreeTurned W S bt (ksOf (lessL X.L e.id)) (K + 2 * (ksOf X.L).length) w5 S' := by rw [ksOf_less HM.out.ok.ids HE.out]; exact hT
      have PT := (P2.below hW).tree_turn hT' (by omega)
      have hq5 := (P2.below hW).blk.turns hT.turns ((P2.below hW).tree.not (P2.below hW).blk (by simp) (by simp))
      have hx := hbx.below hW hbx.lt
      have hx5 := hx.turns hT.turns ((P2.below hW).tree.not hx (by simp) (by simp))
      have hr1 := hrx.below hW hrx.lt
      have hr5 := hr1.turns hT.turns ((P2.below hW).tree.not hr1 (by simp) (by simp))
      exact ⟨_, hr, ⟨by rw [hld]; exact Blk.cell hq5 4, by rw [hcu]; exact Blk.cell hq5 2, Blk.frozen hq5, Blk.cell hx5 0, Blk.cell hx5 1, Blk.cell hx5 2, Blk.cell hx5 3, Blk.cell hr5 0, Blk.cell hr5 1, Blk.cell hr5 2, Blk.cell hr5 3, Blk.frozen hr5⟩, PT, hr5⟩
    have HLD := Lib.hid (And.intro hld (And.intro hldb (And.intro hlds hcu)))
    have hmm : q ≠ w.heap.size := by omega
    clear hf hh hs P2 hld hldb hlds hbx hrx ho ho2 hg2 c0 c1 c2 c3 c4 c5 cf hkl HD hkey hl y0 y1 y2 y3 hW0 hcu hmb
    refine wp_region_noPanic ?_
    go_region_with (first | (go_at_call 87; refine (MK.out _ (by first | exact (Below.refl _ _).drew | exact Below.refl _ _)).mono ?_; rintro r w3 ⟨rfl, x1, HB3⟩) | (go_at_call 91; refine (MI.out _ (by first | exact HB3.out | exact HB3.out.drew)).mono ?_; rintro r w5 ⟨bb, rfl, ⟨y4, y2, yf, b0, b1, b2, b3, r0, r1, r2, r3, rf⟩, HT⟩))
    all_goals
      refine NoPanic.normal ?_
      have e1 : IntKind.u64.wrap ((ld : Int) - (e.wt : Int)) = ((ld - e.wt : Nat) : Int) := by
        have := HLD.out
        rw [IntKind.wrap_u64]
        omega
      go_wp2_with fail
      go_still_tail 9, (by kernel_rfl)
      change wpList _ _ _ _ _ (w5.drew)
      by_cases hc : cu = e.id
      · have hcx := Lib.hid (show X.cur = e.id from HLD.out.2.2.2.symm.trans hc)
        rw [hc] at y2
        clear hc
        go_wp2_with fail
        obtain ⟨W4, hW4⟩ : ∃ W4, W4 = ((w5.setCell ⟨q, 4, none⟩ (.int .u64 ((ld - e.wt : Nat) : Int))).setCell ⟨q, 2, none⟩ (.int .i64 (-1))) := ⟨_, rfl⟩
        obtain ⟨w6, hw6⟩ : ∃ w6, w6 = ((((W4.setCell ⟨w.heap.size, 0, none⟩ (.int .i64 e.id)).setCell ⟨w.heap.size, 1, none⟩ (.int .u64 e.wt)).setCell ⟨w.heap.size, 2, none⟩ (.int .i64 e.v)).setCell ⟨w.heap.size, 3, none⟩ (.int .u64 e.rem)).drew := ⟨_, rfl⟩
        rw [← hW4, ← hw6]
        have hl2 : loadL (X.drop e.id).L = ld - e.wt := by
          have := HLD.out
          show loadL (lessL X.L e.id) = _
          omega
        obtain ⟨wm, Sm, hmid, htt, hq5, _⟩ := HT.out.1.ex
        have hq6 : Blk w5 q (qcells bm bt X.cur X.mn ld X.over) 139 := by rw [HLD.out.1]; exact hq5
        have hq4 : Blk W4 q (qcells bm bt (X.drop e.id).cur (X.drop e.id).mn (loadL (X.drop e.id).L) (X.drop e.id).over) 139 := by
          rw [hl2, hW4, show (X.drop e.id).cur = -1 from if_pos hcx.out]
          exact Blk.set (Blk.set hq6 4 (.int .u64 ((ld - e.wt : Nat) : Int))) 2 (.int .i64 (-1))
        have hr4 : Blk W4 w.heap.size (ecells ⟨0, 0, 0, 0⟩) 52 := by
          rw [hW4]
          exact (HT.out.2.of (Below.heap_setCell _ _ _ _ (Ne.symm hmm))).of (Below.heap_setCell _ _ _ _ (Ne.symm hmm))
        have ho4 : ∀ b, b ≠ q → W4.heap[b]? = w5.heap[b]? := fun b hb => by
          rw [hW4]
          exact (Below.heap_setCell _ _ _ _ hb).trans (Below.heap_setCell _ _ _ _ hb)
        have ht4 : Turns [q, w.heap.size] w5 W4 := by
          rw [hW4]
          exact ((Turns.refl _ _).setCell (.inl (by simp)) _).setCell (.inl (by simp)) _
        clear hW4
        obtain ⟨hr6, ho6, ht6⟩ := set4_facts W4 w.heap.size e _ w6 hw6 hr4
        clear hw6
        obtain ⟨F', hT, hrF⟩ := HT.out.1.done2 (X' := X.drop e.id) (w6 := w6) (r := w.heap.size) (e0 := ⟨0, 0, 0, 0⟩) rfl (HM.out.ok.drop e.id) (by omega) hK (hq4.of (ho6 q hmm)) (fun b hb1 hb2 => (ho6 b hb2).trans (ho4 b hb1)) (ht6 _ _ ht4 (by simp)) (Nat.le_refl _) HT.out.2 (fun x hx => by
          have := ((HM.out.ents x (lessL_mem.1 hx).1).lt)
          omega)
        refine leaves_cons (f := 85) (args := #[.pointer (some ⟨q, 0, none⟩)]) (by simp) (by simp [go_sem]) ?_
        refine (raise_d _ hT.at_).mono ?_
        rintro r u' w7 ⟨rfl, rfl, hR⟩
        have hr7 := hr6.turns hR.out.turns hrF
        have v0 : w7.cell? ⟨w.heap.size, 0, none⟩ = some (.int .i64 e.id) := Blk.cell hr7 0
        have v1 : w7.cell? ⟨w.heap.size, 1, none⟩ = some (.int .u64 e.wt) := Blk.cell hr7 1
        have v2 : w7.cell? ⟨w.heap.size, 2, none⟩ = some (.int .i64 e.v) := Blk.cell hr7 2
        have v3 : w7.cell? ⟨w.heap.size, 3, none⟩ = some (.int .u64 e.rem) := Blk.cell hr7 3
        exact ⟨.tuple #[enV e, .int .i64 0], by simp [results, Try.results36, go_sem, v0, v1, v2, v3], _, rfl, hT.trans hR.out⟩
      · have z1 : decide (cu = e.id) = false := decide_eq_false hc
        have hc := Lib.hid hc
        go_wp2_with fail
        obtain ⟨W4, hW4⟩ : ∃ W4, W4 = (w5.setCell ⟨q, 4, none⟩ (.int .u64 ((ld - e.wt : Nat) : Int))) := ⟨_, rfl⟩
        obtain ⟨w6, hw6⟩ : ∃ w6, w6 = ((((W4.setCell ⟨w.heap.size, 0, none⟩ (.int .i64 e.id)).setCell ⟨w.heap.size, 1, none⟩ (.int .u64 e.wt)).setCell ⟨w.heap.size, 2, none⟩ (.int .i64 e.v)).setCell ⟨w.heap.size, 3, none⟩ (.int .u64 e.rem)).drew := ⟨_, rfl⟩
        rw [← hW4, ← hw6]
        have hl2 : loadL (X.drop e.id).L = ld - e.wt := by
          have := HLD.out
          show loadL (lessL X.L e.id) = _
          omega
        obtain ⟨wm, Sm, hmid, htt, hq5, _⟩ := HT.out.1.ex
        have hq6 : Blk w5 q (qcells bm bt X.cur X.mn ld X.over) 139 := by rw [HLD.out.1]; exact hq5
        have hq4 : Blk W4 q (qcells bm bt (X.drop e.id).cur (X.drop e.id).mn (loadL (X.drop e.id).L) (X.drop e.id).over) 139 := by
          rw [hl2, hW4, show (X.drop e.id).cur = X.cur from if_neg (fun h => hc.out (HLD.out.2.2.2.trans h))]
          exact Blk.set hq6 4 (.int .u64 ((ld - e.wt : Nat) : Int))
        have hr4 : Blk W4 w.heap.size (ecells ⟨0, 0, 0, 0⟩) 52 := by
          rw [hW4]
          exact HT.out.2.of (Below.heap_setCell _ _ _ _ (Ne.symm hmm))
        have ho4 : ∀ b, b ≠ q → W4.heap[b]? = w5.heap[b]? := fun b hb => by
          rw [hW4]
          exact Below.heap_setCell _ _ _ _ hb
        have ht4 : Turns [q, w.heap.size] w5 W4 := by
          rw [hW4]
          exact (Turns.refl _ _).setCell (.inl (by simp)) _
        clear hW4
        obtain ⟨hr6, ho6, ht6⟩ := set4_facts W4 w.heap.size e _ w6 hw6 hr4
        clear hw6
        obtain ⟨F', hT, hrF⟩ := HT.out.1.done2 (X' := X.drop e.id) (w6 := w6) (r := w.heap.size) (e0 := ⟨0, 0, 0, 0⟩) rfl (HM.out.ok.drop e.id) (by omega) hK (hq4.of (ho6 q hmm)) (fun b hb1 hb2 => (ho6 b hb2).trans (ho4 b hb1)) (ht6 _ _ ht4 (by simp)) (Nat.le_refl _) HT.out.2 (fun x hx => by
          have := ((HM.out.ents x (lessL_mem.1 hx).1).lt)
          omega)
        refine leaves_cons (f := 85) (args := #[.pointer (some ⟨q, 0, none⟩)]) (by simp) (by simp [go_sem]) ?_
        refine (raise_d _ hT.at_).mono ?_
        rintro r u' w7 ⟨rfl, rfl, hR⟩
        have hr7 := hr6.turns hR.out.turns hrF
        have v0 : w7.cell? ⟨w.heap.size, 0, none⟩ = some (.int .i64 e.id) := Blk.cell hr7 0
        have v1 : w7.cell? ⟨w.heap.size, 1, none⟩ = some (.int .u64 e.wt) := Blk.cell hr7 1
        have v2 : w7.cell? ⟨w.heap.size, 2, none⟩ = some (.int .i64 e.v) := Blk.cell hr7 2
        have v3 : w7.cell? ⟨w.heap.size, 3, none⟩ = some (.int .u64 e.rem) := Blk.cell hr7 3
        exact ⟨.tuple #[enV e, .int .i64 0], by simp [results, Try.results36, go_sem, v0, v1, v2, v3], _, rfl, hT.trans hR.out⟩

end Go.Proofs.Ytkemhcokkaanfaa
