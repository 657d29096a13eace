/-
  rbtree.Compare, height, skew, split: what they do.
-/
import Derived.Test.YtkemhcokkaanfaaTr
import Derived.Test.YtkemhcokkaanfaaFix
import Derived.Deep.QuietTactic
import Derived.BigQuiet
namespace Go.Proofs.Ytkemhcokkaanfaa
open Go.RowKit

/-- one key is ahead of another one -/
def keyLt (a b : Int × Int) : Prop := a.1 < b.1 ∨ a.1 = b.1 ∧ a.2 < b.2
instance (a b : Int × Int) : Decidable (keyLt a b) := by unfold keyLt; infer_instance
def cmpK (a b : Int × Int) : Int := if a = b then 0 else if keyLt a b then -1 else 1
abbrev keyV (a : Int × Int) : Value := .agg #[.int .i64 a.1, .int .i64 a.2]

set_option maxRecDepth 100000 in
theorem compare_any (v i v' i' : Int) (w : World) :
    Calls Try.prog 147 #[keyV (v, i), keyV (v', i')] w fun e w' => e = .returned (.int .i64 (cmpK (v, i) (v', i'))) ∧ Below w.heap.size w w' := by
  have hB0 : Below w.heap.size w ((w.alloc (.cells #[.int .i64 v, .int .i64 i] 144)).alloc (.cells #[.int .i64 v', .int .i64 i'] 144)) := ((Below.refl _ _).alloc (Nat.le_refl _) _).alloc (by simp) _
  by_cases hv : v = v'
  · subst hv
    by_cases hi : i = i'
    · subst hi
      have e : cmpK (v, i) (v, i) = 0 := if_pos rfl
      rw [e]
      clear e
      go_enter Try.func147, Try.ntmps147
      go_wp2_with fail
      go_ret
      exact ⟨rfl, hB0⟩
    · have e : cmpK (v, i) (v, i') = if i < i' then -1 else 1 := by
        unfold cmpK
        rw [if_neg (by simp [hi])]
        simp [keyLt]
      rw [e]
      have t1 : (i == i') = false := by simp [hi]
      have t2 : decide (v < v) = false := by simp
      by_cases hl : i < i'
      · rw [if_pos hl]
        have t3 : decide (i < i') = true := decide_eq_true hl
        clear e hi
        go_enter Try.func147, Try.ntmps147
        go_wp2_with fail
        go_ret
        exact ⟨rfl, hB0⟩
      · rw [if_neg hl]
        have t3 : decide (i < i') = false := decide_eq_false hl
        clear e hi
        go_enter Try.func147, Try.ntmps147
        go_wp2_with fail
        go_ret
        exact ⟨rfl, hB0⟩
  · have e : cmpK (v, i) (v', i') = if v < v' then -1 else 1 := by
      unfold cmpK
      rw [if_neg (by simp [hv])]
      simp [keyLt, hv]
    rw [e]
    have t1 : (v == v') = false := by simp [hv]
    by_cases hl : v < v'
    · rw [if_pos hl]
      have t3 : decide (v < v') = true := decide_eq_true hl
      clear e hv
      go_enter Try.func147, Try.ntmps147
      go_wp2_with fail
      go_ret
      exact ⟨rfl, hB0⟩
    · rw [if_neg hl]
      have t3 : decide (v < v') = false := decide_eq_false hl
      clear e hv
      go_enter Try.func147, Try.ntmps147
      go_wp2_with fail
      go_ret
      exact ⟨rfl, hB0⟩

theorem Blk.node {w : World} {b : Nat} {v i lev : Int} {l r : Option Addr} {t : TypeId} (h : Blk w b (nodeCells v i lev l r) t) :
    w.cell? ⟨b, 0, none⟩ = some (.int .i64 v) ∧ w.cell? ⟨b, 1, none⟩ = some (.int .i64 i) ∧ w.cell? ⟨b, 2, none⟩ = some (.int .i64 lev) ∧ w.cell? ⟨b, 3, none⟩ = some (.pointer l) ∧ w.cell? ⟨b, 4, none⟩ = some (.pointer r) ∧ ∀ j, w.frozen? ⟨b, j, none⟩ = false :=
  ⟨Blk.cell h 0, Blk.cell h 1, Blk.cell h 2, Blk.cell h 3, Blk.cell h 4, Blk.frozen h⟩

theorem height_any (t : Tr) (w : World) (h : IsTr 209 w t) :
    Calls Try.prog 157 #[.pointer t.ptr] w fun e w' => e = .returned (.int .i64 t.lev) ∧ w = w' := by
  cases t with
  | nil =>
    show Calls _ _ #[.pointer none] _ fun e w' => e = .returned (.int .i64 0) ∧ w = w'
    go_enter Try.func157, Try.ntmps157
    go_wp2_with fail
    go_ret
    exact ⟨rfl, rfl⟩
  | node b l v i lev r =>
    obtain ⟨c0, c1, c2, c3, c4, cf⟩ := h.1.node
    clear h
    show Calls _ _ #[.pointer (some ⟨b, 0, none⟩)] _ fun e w' => e = .returned (.int .i64 lev) ∧ w = w'
    go_enter Try.func157, Try.ntmps157
    go_wp2_with fail
    go_ret
    exact ⟨rfl, rfl⟩

theorem quiet_left {P : Program} {f : FuncId} {args : Array Value} {w : World} {n : Nat} {v : Value}
    (h : Calls P f args (w.drewN n) fun e w' => e = .returned v ∧ w.drewN n = w') : Calls P f args (w.drewN n) fun e w'' => e = .returned v ∧ ∃ m, w'' = w.drewN m :=
  h.mono fun _ _ ⟨he, hm⟩ => ⟨he, n, hm.symm⟩

/-- what comes of a tree that is turned -/
def Turned (T : TypeId) (t : Tr) (S : List Nat) (w : World) (e : Ending) (w' : World) : Prop := e = .returned (.pointer t.ptr) ∧ IsTr T w' t ∧ Turns S w w'

theorem skew_end {T : TypeId} {w : World} {b bl : Nat} {v i lev vl il levl : Int} {ll rl r : Tr} (hb : Blk w b (nodeCells v i lev (some ⟨bl, 0, none⟩) r.ptr) T) (hbl : Blk w bl (nodeCells vl il levl ll.ptr rl.ptr) T)
    (hll : IsTr T w ll) (hrl : IsTr T w rl) (hr : IsTr T w r) (hd : (Tr.node b (.node bl ll vl il levl rl) v i lev r).blocks.Nodup) (n : Nat) :
    Turned T (.node bl ll vl il levl (.node b rl v i lev r)) (Tr.node b (.node bl ll vl il levl rl) v i lev r).blocks w (.returned (.pointer (some ⟨bl, 0, none⟩)))
      (((w.setCell ⟨b, 3, none⟩ (.pointer rl.ptr)).setCell ⟨bl, 4, none⟩ (.pointer (some ⟨b, 0, none⟩))).drewN n) := by
  simp only [Tr.blocks, List.nodup_cons, List.nodup_append, List.mem_append, List.mem_cons] at hd
  have n1 : b ≠ bl := fun h => hd.1 (by simp [h])
  have b1 : b ∉ ll.blocks := fun h => hd.1 (by simp [h])
  have b2 : b ∉ rl.blocks := fun h => hd.1 (by simp [h])
  have b3 : b ∉ r.blocks := fun h => hd.1 (by simp [h])
  have d1 : bl ∉ ll.blocks := fun h => hd.2.1.1 (by simp [h])
  have d2 : bl ∉ rl.blocks := fun h => hd.2.1.1 (by simp [h])
  have d3 : bl ∉ r.blocks := fun h => hd.2.2.2 bl (by simp) bl h rfl
  have h1 : Blk (w.setCell ⟨b, 3, none⟩ (.pointer rl.ptr)) b (nodeCells v i lev rl.ptr r.ptr) T := Blk.set hb 3 (.pointer rl.ptr)
  have h2 : Blk ((w.setCell ⟨b, 3, none⟩ (.pointer rl.ptr)).setCell ⟨bl, 4, none⟩ (.pointer (some ⟨b, 0, none⟩))) b (nodeCells v i lev rl.ptr r.ptr) T := h1.other _ n1
  have g1 : Blk (w.setCell ⟨b, 3, none⟩ (.pointer rl.ptr)) bl (nodeCells vl il levl ll.ptr rl.ptr) T := hbl.other _ (Ne.symm n1)
  have g2 : Blk ((w.setCell ⟨b, 3, none⟩ (.pointer rl.ptr)).setCell ⟨bl, 4, none⟩ (.pointer (some ⟨b, 0, none⟩))) bl (nodeCells vl il levl ll.ptr (some ⟨b, 0, none⟩)) T := Blk.set g1 4 (.pointer (some ⟨b, 0, none⟩))
  refine ⟨rfl, ⟨g2.drewN n, ((hll.setCell _ b1).setCell _ d1).drewN n, h2.drewN n, ((hrl.setCell _ b2).setCell _ d2).drewN n, ((hr.setCell _ b3).setCell _ d3).drewN n⟩, ?_⟩
  refine (((Turns.refl _ _).setCell (.inl ?_) _).setCell (.inl ?_) _).drewN n
  · simp [Tr.blocks]
  · simp [Tr.blocks]

set_option maxRecDepth 100000 in
set_option maxHeartbeats 1000000 in
theorem skew_any (t : Tr) (w : World) (h : IsTr 209 w t) (hd : t.blocks.Nodup) (hp : t ≠ .nil → 1 ≤ t.lev) :
    Calls Try.prog 149 #[.pointer t.ptr] w (Turned 209 (skewT t) t.blocks w) := by
  cases t with
  | nil =>
    show Calls _ _ #[.pointer none] _ (Turned _ .nil [] w)
    clear h hd hp
    go_enter Try.func149, Try.ntmps149
    go_wp2_with fail
    go_big_quiet (fail)
    go_wp2_with fail
    go_ret
    exact ⟨rfl, trivial, (Turns.refl _ _).drewN _⟩
  | node b l v i lev r =>
    have hp1 : 1 ≤ lev := hp (by simp)
    obtain ⟨hb, hl, hr⟩ := h
    obtain ⟨c0, c1, c2, c3, c4, cf⟩ := hb.node
    show Calls _ _ #[.pointer (some ⟨b, 0, none⟩)] _ _
    cases l with
    | nil =>
      have z0 : ((0 : Int) != lev) = true := by rw [bne_iff_ne]; omega
      have c3' : w.cell? ⟨b, 3, none⟩ = some (.pointer none) := c3
      have M1 := Lib.hid (show ∀ W, Calls Try.prog 157 #[.pointer none] W fun e w' => e = .returned (.int .i64 0) ∧ W = w' from fun W => height_any .nil W trivial)
      have HB := Lib.hid hb
      have HR := Lib.hid hr
      clear hb hl hr hd hp c3
      go_enter Try.func149, Try.ntmps149
      go_wp2_with fail
      go_big_quiet ((go_at_call 157; exact quiet_left (M1.out _)))
      go_wp2_with fail
      go_ret
      exact ⟨rfl, ⟨HB.out.drewN _, trivial, HR.out.drewN _⟩, (Turns.refl _ _).drewN _⟩
    | node bl ll vl il levl rl =>
      have M1 := Lib.hid (show ∀ W, IsTr 209 W (.node bl ll vl il levl rl) → Calls Try.prog 157 #[.pointer (some ⟨bl, 0, none⟩)] W fun e w' => e = .returned (.int .i64 levl) ∧ W = w' from fun W hW => height_any (.node bl ll vl il levl rl) W hW)
      have c3' : w.cell? ⟨b, 3, none⟩ = some (.pointer (some ⟨bl, 0, none⟩)) := c3
      have HB := Lib.hid hb
      have HR := Lib.hid hr
      have HL := Lib.hid hl
      by_cases e : levl = lev
      · subst e
        obtain ⟨hbl, hll, hrl⟩ := hl
        obtain ⟨d0, d1, d2, d3, d4, df⟩ := hbl.node
        have t1 : (levl != levl) = false := by simp
        have fin := skew_end hb hbl hll hrl hr hd
        have FIN := Lib.hid fin
        rw [skew_yes rfl]
        clear fin hb hbl hll hrl hr hd hp c3
        go_enter Try.func149, Try.ntmps149
        go_wp2_with fail
        go_big_quiet ((go_at_call 157; exact quiet_left (M1.out _ (HL.out.drewN _))))
        go_wp2_with fail
        go_ret
        exact FIN.out _
      · have t1 : (levl != lev) = true := by rw [bne_iff_ne]; exact e
        rw [skew_no e]
        clear hb hl hr hd hp c3 e
        go_enter Try.func149, Try.ntmps149
        go_wp2_with fail
        go_big_quiet ((go_at_call 157; exact quiet_left (M1.out _ (HL.out.drewN _))))
        go_wp2_with fail
        go_ret
        exact ⟨rfl, ⟨HB.out.drewN _, HL.out.drewN _, HR.out.drewN _⟩, (Turns.refl _ _).drewN _⟩

theorem split_end {T : TypeId} {w : World} {b br b2 : Nat} {v i lev vr ir levr v2 i2 lev2 : Int} {l lr l2 r2 : Tr} (hb : Blk w b (nodeCells v i lev l.ptr (some ⟨br, 0, none⟩)) T) (hbr : Blk w br (nodeCells vr ir levr lr.ptr (some ⟨b2, 0, none⟩)) T)
    (hl : IsTr T w l) (hlr : IsTr T w lr) (hr2 : IsTr T w (.node b2 l2 v2 i2 lev2 r2)) (hd : (Tr.node b l v i lev (.node br lr vr ir levr (.node b2 l2 v2 i2 lev2 r2))).blocks.Nodup) (n : Nat) :
    Turned T (.node br (.node b l v i lev lr) vr ir (levr + 1) (.node b2 l2 v2 i2 lev2 r2)) (Tr.node b l v i lev (.node br lr vr ir levr (.node b2 l2 v2 i2 lev2 r2))).blocks w (.returned (.pointer (some ⟨br, 0, none⟩)))
      ((((w.setCell ⟨b, 4, none⟩ (.pointer lr.ptr)).setCell ⟨br, 3, none⟩ (.pointer (some ⟨b, 0, none⟩))).setCell ⟨br, 2, none⟩ (.int .i64 (levr + 1))).drewN n) := by
  generalize hR : Tr.node b2 l2 v2 i2 lev2 r2 = R at *
  have hRp : R.ptr = some ⟨b2, 0, none⟩ := by rw [← hR]; rfl
  rw [← hRp] at hbr
  clear hR hRp
  simp only [Tr.blocks, List.nodup_cons, List.nodup_append, List.mem_append, List.mem_cons] at hd
  have n1 : b ≠ br := fun h => hd.1 (by simp [h])
  have b1 : b ∉ l.blocks := fun h => hd.1 (by simp [h])
  have b2 : b ∉ lr.blocks := fun h => hd.1 (by simp [h])
  have b3 : b ∉ R.blocks := fun h => hd.1 (by simp [h])
  have d1 : br ∉ l.blocks := fun h => hd.2.2.2 br h br (by simp) rfl
  have d2 : br ∉ lr.blocks := fun h => hd.2.2.1.1 (by simp [h])
  have d3 : br ∉ R.blocks := fun h => hd.2.2.1.1 (by simp [h])
  have h1 : Blk (w.setCell ⟨b, 4, none⟩ (.pointer lr.ptr)) b (nodeCells v i lev l.ptr lr.ptr) T := Blk.set hb 4 (.pointer lr.ptr)
  have h2 : Blk ((w.setCell ⟨b, 4, none⟩ (.pointer lr.ptr)).setCell ⟨br, 3, none⟩ (.pointer (some ⟨b, 0, none⟩))) b (nodeCells v i lev l.ptr lr.ptr) T := h1.other _ n1
  have h3 : Blk (((w.setCell ⟨b, 4, none⟩ (.pointer lr.ptr)).setCell ⟨br, 3, none⟩ (.pointer (some ⟨b, 0, none⟩))).setCell ⟨br, 2, none⟩ (.int .i64 (levr + 1))) b (nodeCells v i lev l.ptr lr.ptr) T := h2.other _ n1
  have g1 : Blk (w.setCell ⟨b, 4, none⟩ (.pointer lr.ptr)) br (nodeCells vr ir levr lr.ptr R.ptr) T := hbr.other _ (Ne.symm n1)
  have g2 : Blk ((w.setCell ⟨b, 4, none⟩ (.pointer lr.ptr)).setCell ⟨br, 3, none⟩ (.pointer (some ⟨b, 0, none⟩))) br (nodeCells vr ir levr (some ⟨b, 0, none⟩) R.ptr) T := Blk.set g1 3 (.pointer (some ⟨b, 0, none⟩))
  have g3 : Blk (((w.setCell ⟨b, 4, none⟩ (.pointer lr.ptr)).setCell ⟨br, 3, none⟩ (.pointer (some ⟨b, 0, none⟩))).setCell ⟨br, 2, none⟩ (.int .i64 (levr + 1))) br (nodeCells vr ir (levr + 1) (some ⟨b, 0, none⟩) R.ptr) T := Blk.set g2 2 (.int .i64 (levr + 1))
  refine ⟨rfl, ⟨g3.drewN n, ⟨h3.drewN n, (((hl.setCell _ b1).setCell _ d1).setCell _ d1).drewN n, (((hlr.setCell _ b2).setCell _ d2).setCell _ d2).drewN n⟩, (((hr2.setCell _ b3).setCell _ d3).setCell _ d3).drewN n⟩, ?_⟩
  refine ((((Turns.refl _ _).setCell (.inl ?_) _).setCell (.inl ?_) _).setCell (.inl ?_) _).drewN n
  all_goals simp [Tr.blocks]

set_option maxRecDepth 100000 in
set_option maxHeartbeats 2000000 in
theorem split_any (t : Tr) (w : World) (h : IsTr 209 w t) (hd : t.blocks.Nodup) (hp : t ≠ .nil → 1 ≤ t.lev) (hq1 : 0 ≤ t.rt.lev) (hq : t.rt.lev ≤ 9223372036854775806) :
    Calls Try.prog 148 #[.pointer t.ptr] w (Turned 209 (splitT t) t.blocks w) := by
  cases t with
  | nil =>
    show Calls _ _ #[.pointer none] _ (Turned _ .nil [] w)
    clear h hd hp hq hq1
    go_enter Try.func148, Try.ntmps148
    go_wp2_with fail
    go_big_quiet (fail)
    go_wp2_with fail
    go_ret
    exact ⟨rfl, trivial, (Turns.refl _ _).drewN _⟩
  | node b l v i lev r =>
    have hp1 : 1 ≤ lev := hp (by simp)
    obtain ⟨hb, hl, hr⟩ := h
    obtain ⟨c0, c1, c2, c3, c4, cf⟩ := hb.node
    show Calls _ _ #[.pointer (some ⟨b, 0, none⟩)] _ _
    cases r with
    | nil =>
      have c4' : w.cell? ⟨b, 4, none⟩ = some (.pointer none) := c4
      have HB := Lib.hid hb
      have HL := Lib.hid hl
      show Calls _ _ _ _ (Turned _ (.node b l v i lev .nil) _ w)
      clear hb hl hr hd hp c4 hq hq1
      go_enter Try.func148, Try.ntmps148
      go_wp2_with fail
      go_big_quiet (fail)
      go_wp2_with fail
      go_ret
      exact ⟨rfl, ⟨HB.out.drewN _, HL.out.drewN _, trivial⟩, (Turns.refl _ _).drewN _⟩
    | node br lr vr ir levr r2 =>
      have c4' : w.cell? ⟨b, 4, none⟩ = some (.pointer (some ⟨br, 0, none⟩)) := c4
      obtain ⟨hbr, hlr, hr2⟩ := hr
      obtain ⟨d0, d1, d2, d3, d4, df⟩ := hbr.node
      have HB := Lib.hid hb
      have HL := Lib.hid hl
      have HBR := Lib.hid hbr
      have HLR := Lib.hid hlr
      have HR2 := Lib.hid hr2
      have qa : 0 ≤ levr := hq1
      have qb : levr ≤ 9223372036854775806 := hq
      cases r2 with
      | nil =>
        have M1 := Lib.hid (show ∀ W, Calls Try.prog 157 #[.pointer none] W fun e w' => e = .returned (.int .i64 0) ∧ W = w' from fun W => height_any .nil W trivial)
        have d4' : w.cell? ⟨br, 4, none⟩ = some (.pointer none) := d4
        have z0 : ((0 : Int) != lev) = true := by rw [bne_iff_ne]; omega
        show Calls _ _ _ _ (Turned _ (.node b l v i lev (.node br lr vr ir levr .nil)) _ w)
        clear hb hl hbr hlr hr2 hd hp c4 d4 hq hq1
        go_enter Try.func148, Try.ntmps148
        go_wp2_with fail
        go_big_quiet ((go_at_call 157; exact quiet_left (M1.out _)))
        go_wp2_with fail
        go_ret
        exact ⟨rfl, ⟨HB.out.drewN _, HL.out.drewN _, HBR.out.drewN _, HLR.out.drewN _, trivial⟩, (Turns.refl _ _).drewN _⟩
      | node b2 l2 v2 i2 lev2 r2 =>
        have M1 := Lib.hid (show ∀ W, IsTr 209 W (.node b2 l2 v2 i2 lev2 r2) → Calls Try.prog 157 #[.pointer (some ⟨b2, 0, none⟩)] W fun e w' => e = .returned (.int .i64 lev2) ∧ W = w' from fun W hW => height_any (.node b2 l2 v2 i2 lev2 r2) W hW)
        have d4' : w.cell? ⟨br, 4, none⟩ = some (.pointer (some ⟨b2, 0, none⟩)) := d4
        by_cases e : lev2 = lev
        · subst e
          have t1 : (lev2 != lev2) = false := by simp
          have nbr : b ≠ br := by
            simp only [Tr.blocks, List.nodup_cons] at hd
            exact fun h => hd.1 (by simp [h])
          have FIN := Lib.hid (split_end hb hbr hl hlr hr2 hd)
          rw [split_yes rfl]
          clear hb hl hbr hlr hr2 hd hp c4 d4 hq hq1
          go_enter Try.func148, Try.ntmps148
          go_wp2_with fail
          go_big_quiet ((go_at_call 157; exact quiet_left (M1.out _ (HR2.out.drewN _))))
          go_wp2_with fail
          go_ret
          exact FIN.out _
        · have t1 : (lev2 != lev) = true := by rw [bne_iff_ne]; exact e
          rw [split_no e]
          clear hb hl hbr hlr hr2 hd hp c4 d4 e hq hq1
          go_enter Try.func148, Try.ntmps148
          go_wp2_with fail
          go_big_quiet ((go_at_call 157; exact quiet_left (M1.out _ (HR2.out.drewN _))))
          go_wp2_with fail
          go_ret
          exact ⟨rfl, ⟨HB.out.drewN _, HL.out.drewN _, HBR.out.drewN _, HLR.out.drewN _, HR2.out.drewN _⟩, (Turns.refl _ _).drewN _⟩

end Go.Proofs.Ytkemhcokkaanfaa
