/-
  runq.Queue: how memory holds it behind a turn; key, may, raise.
-/
import Derived.Test.YtkemhcokkaanfaaQp
import Derived.Defers
import Derived.StillTailTactics
namespace Go.Proofs.Ytkemhcokkaanfaa
open Go.RowKit Go.Maps

section
variable {w w' : World} {q bm bt : Nat} {S S' F F' : List Nat} {g g' : Int → Nat} {X X' : QS} {K K' : Int} {e e' : En}
/-- what comes of a turn of the queue -/
structure QTurned (w : World) (F : List Nat) (q : Nat) (X : QS) (K : Int) (w' : World) (F' : List Nat) : Prop where
  at_ : QAt w' q F' X K
  turns : Turns F w w'
  sub : ∀ b, b ∈ F' → b ∈ F ∨ w.heap.size ≤ b
theorem QTurned.trans {w1 w2 : World} {F1 F2 : List Nat} {X1 X2 : QS} {K1 K2 : Int} (h1 : QTurned w F q X1 K1 w1 F1) (h2 : QTurned w1 F1 q X2 K2 w2 F2) : QTurned w F q X2 K2 w2 F2 :=
  ⟨h2.at_, h1.turns.then h2.turns (fun b hb hlt => by
    rcases h1.sub b hb with e | e
    · exact e
    · omega), fun b hb => by
    rcases h2.sub b hb with e | e
    · exact h1.sub b e
    · exact .inr (Nat.le_trans h1.turns.size e)⟩
/-- only the queue's own cells turn, its entities stay -/
theorem QMem.turn (h : QMem w q bm bt S g X K) (hL : X'.L = X.L) (hok : X'.ok) (hb : Blk w' q (qcells bm bt X'.cur X'.mn (loadL X'.L) X'.over) 139) (e : ∀ b, b ∈ qblocks q bm S g X → b ≠ q → w'.heap[b]? = w.heap[b]?) : QMem w' q bm bt S g X' K := by
  obtain ⟨a1, a2, a3, a4, a5⟩ := h.apart
  refine ⟨hb, ?_, fun x hx => ?_, ?_, hok, h.k1, h.k2⟩
  · rw [hL]; exact h.map.of (e bm (by simp [qblocks]) a1)
  · rw [hL] at hx
    exact (h.ents x hx).of (e _ (by
      simp only [qblocks, List.mem_cons, List.mem_append, List.mem_map]
      exact .inr (.inr (.inr ⟨x, hx, rfl⟩))) (a4 x hx).1)
  · rw [hL]; exact h.tree.of (fun b hb => e b (by simp [qblocks, hb]) (fun h => a2 (h ▸ hb)))
theorem place_add (L : List En) (g : Int → Nat) (e : En) (n : Nat) : place (L ++ [e]) (fun i => if i = e.id then n else g i) = upd (place L g) e.id (n : Int) := by
  funext i
  show (if i ∈ (L ++ [e]).map (·.id) then (((if i = e.id then n else g i) : Nat) : Int) else -1) = (if i = e.id then (n : Int) else if i ∈ L.map (·.id) then (g i : Int) else -1)
  by_cases hi : i = e.id
  · rw [if_pos (by simp [hi]), if_pos hi, if_pos hi]
  · rw [if_neg hi, if_neg hi]
    by_cases hm : i ∈ L.map (·.id)
    · rw [if_pos hm, if_pos (by rw [List.map_append]; exact List.mem_append_left _ hm)]
    · rw [if_neg hm, if_neg (by rw [List.map_append, List.mem_append]; rintro (h | h); exact hm h; simp at h; exact hi h)]
theorem place_less (L : List En) (g : Int → Nat) (k : Int) : place (lessL L k) g = upd (place L g) k (-1) := by
  funext i
  show (if i ∈ (lessL L k).map (·.id) then (g i : Int) else -1) = (if i = k then (-1 : Int) else if i ∈ L.map (·.id) then (g i : Int) else -1)
  by_cases hi : i = k
  · rw [if_pos hi, if_neg]
    intro hm
    obtain ⟨x, hx, hxi⟩ := List.mem_map.1 hm
    exact (lessL_mem.1 hx).2 (hxi.trans hi)
  · rw [if_neg hi]
    by_cases hm : i ∈ L.map (·.id)
    · rw [if_pos hm, if_pos]
      obtain ⟨x, hx, rfl⟩ := List.mem_map.1 hm
      exact List.mem_map.2 ⟨x, lessL_mem.2 ⟨hx, hi⟩, rfl⟩
    · rw [if_neg hm, if_neg]
      intro h
      obtain ⟨x, hx, hxi⟩ := List.mem_map.1 h
      exact hm (List.mem_map.2 ⟨x, (lessL_mem.1 hx).1, hxi⟩)
theorem place_set (L : List En) (g : Int → Nat) (e : En) : place (setL L e) g = place L g := by
  funext i
  unfold place
  rw [setL_ids]
end

set_option maxRecDepth 100000 in
theorem qkey_any (b : Nat) (e : En) (w : World) (h : Blk w b (ecells e) 52) :
    Calls Try.prog 87 #[.pointer (some ⟨b, 0, none⟩)] w fun r w' => r = .returned (keyV e.key) ∧ Below w.heap.size w w' := by
  obtain ⟨W1, hW1⟩ : ∃ W1, W1 = w.alloc (.cells #[.int .i64 0, .int .i64 0] 144) := ⟨_, rfl⟩
  have hb1 : Below w.heap.size w W1 := by rw [hW1]; exact (Below.refl _ _).alloc (Nat.le_refl _) _
  have hk1 : Blk W1 w.heap.size #[.int .i64 0, .int .i64 0] 144 := by rw [hW1]; exact Blk.new _ _ _
  have h1 := h.below hb1 h.lt
  have c0 : W1.cell? ⟨b, 0, none⟩ = some (.int .i64 e.id) := Blk.cell h1 0
  have c2 : W1.cell? ⟨b, 2, none⟩ = some (.int .i64 e.v) := Blk.cell h1 2
  have k0 : W1.cell? ⟨w.heap.size, 0, none⟩ = some (.int .i64 0) := Blk.cell hk1 0
  have k1 : W1.cell? ⟨w.heap.size, 1, none⟩ = some (.int .i64 0) := Blk.cell hk1 1
  have kf := Blk.frozen hk1
  have HW1 := Lib.hid hW1
  have HB1 := Lib.hid hb1
  clear h h1 hk1 hW1 hb1
  go_enter Try.func87, Try.ntmps87
  go_wp2_with fail
  rw [← HW1.out]
  clear HW1
  go_still_tail 9, (by kernel_rfl)
  go_wp2_with fail
  refine bodyPost_ret (v := keyV e.key) (by simp [results, Try.results87, go_sem, k0, k1]; exact ⟨rfl, rfl⟩) rfl ?_
  exact ⟨rfl, ((HB1.out.setCell (Nat.le_refl _) _).setCell (Nat.le_refl _) _).drew⟩
theorem qmay_any (n : Nat) (hn : n < 18446744073709551616) (w : World) :
    Calls Try.prog 84 #[.int .u64 n] w fun r w' => r = .returned (.bool (decide (2 ≤ n ∧ n ≤ 262144))) ∧ w = w' := by
  by_cases h1 : 2 ≤ n
  · by_cases h2 : n ≤ 262144
    · rw [show decide (2 ≤ n ∧ n ≤ 262144) = true from decide_eq_true ⟨h1, h2⟩]
      have z1 : decide ((2 : Int) ≤ (n : Int)) = true := decide_eq_true (by omega)
      have z2 : decide ((n : Int) ≤ 262144) = true := decide_eq_true (by omega)
      go_enter Try.func84, Try.ntmps84
      go_wp2_with fail
      go_ret
      exact ⟨rfl, rfl⟩
    · rw [show decide (2 ≤ n ∧ n ≤ 262144) = false from decide_eq_false (fun h => h2 h.2)]
      have z1 : decide ((2 : Int) ≤ (n : Int)) = true := decide_eq_true (by omega)
      have z2 : decide ((n : Int) ≤ 262144) = false := decide_eq_false (by omega)
      go_enter Try.func84, Try.ntmps84
      go_wp2_with fail
      go_ret
      exact ⟨rfl, rfl⟩
  · rw [show decide (2 ≤ n ∧ n ≤ 262144) = false from decide_eq_false (fun h => h1 h.1)]
    have z1 : decide ((2 : Int) ≤ (n : Int)) = false := decide_eq_false (by omega)
    go_enter Try.func84, Try.ntmps84
    go_wp2_with fail
    go_ret
    exact ⟨rfl, rfl⟩

/-! renorm.Higher of one -/
set_option maxRecDepth 100000 in
theorem min_one (b : Nat) (v : Int) (w : World) (hc : w.cell? ⟨b, 0, none⟩ = some (.int .i64 v)) :
    Calls Try.prog 146 #[.slice (some ⟨b, 0, none⟩) 1 1] w fun e w' => e = .returned (.int .i64 v) ∧ w = w' := by
  go_enter Try.func146, Try.ntmps146
  go_wp2_with fail
  go_loop [3, 4] (fun m i => m = .int .i64 v ∧ i = .int .i64 1) (fun _ _ => 0)
  case atStart => exact ⟨rfl, rfl⟩
  case round =>
    obtain ⟨rfl, rfl⟩ := hrel
    go_wp2_with fail
    go_ret
    exact ⟨rfl, rfl⟩
set_option maxRecDepth 100000 in
theorem higher_one (m : Int) (b : Nat) (v : Int) (w : World) (hc : w.cell? ⟨b, 0, none⟩ = some (.int .i64 v)) :
    Calls Try.prog 121 #[.int .i64 m, .slice (some ⟨b, 0, none⟩) 1 1] w fun e w' => e = .returned (.int .i64 (max m v)) ∧ w = w' := by
  have M := Lib.hid fun W h => min_one b v W h
  go_enter Try.func121, Try.ntmps121
  go_wp2_with (go_at_call 146; refine (M.out _ hc).mono ?_; rintro e w1 ⟨rfl, rfl⟩)
  go_ret
  exact ⟨rfl, rfl⟩

theorem raise_end {w W1 w5 : World} {q bm bt : Nat} {S : List Nat} {g : Int → Nat} {X : QS} {K k1 k2 : Int} (_h0 : QMem w q bm bt S g X K) (h : QMem W1 q bm bt S g X K) (hB : Below w.heap.size w W1) (hB5 : Below W1.heap.size W1 w5) (hh : (ksOf X.L).head? = some (k1, k2)) :
    QTurned w (qblocks q bm S g X) q X.raise K (w5.setCell ⟨q, 3, none⟩ (.int .i64 (max X.mn k1))) (qblocks q bm S g X) := by
  have h5 := h.below hB5
  have hm : X.raise.mn = max X.mn k1 := by
    show (match (ksOf X.L).head? with | none => X.mn | some k => max X.mn k.1) = _
    rw [hh]
  have hb : Blk (w5.setCell ⟨q, 3, none⟩ (.int .i64 (max X.mn k1))) q (qcells bm bt X.raise.cur X.raise.mn (loadL X.raise.L) X.raise.over) 139 := by
    rw [hm]
    exact Blk.set h5.blk 3 _
  exact ⟨⟨bm, bt, S, g, h5.turn rfl h5.ok.raise hb (fun b _ hne => Below.heap_setCell _ _ _ _ hne), rfl⟩,
    ((Turns.of_below (S := qblocks q bm S g X) (hB.trans (hB5.mono hB.size))).setCell (.inl (by simp [qblocks])) _), fun _ h => .inl h⟩
set_option maxRecDepth 100000 in
set_option maxHeartbeats 4000000 in
theorem raise_d {w : World} {q : Nat} {F : List Nat} {X : QS} {K : Int} (u : FrameMode) (h : QAt w q F X K) :
    CallsD Try.prog 85 #[.pointer (some ⟨q, 0, none⟩)] u w fun e u' w' => u' = u ∧ (e = .returned (.tuple #[]) ∧ Hid (QTurned w F q X.raise K w' F)) := by
  obtain ⟨bm, bt, S, g, hM, rfl⟩ := h.ex
  obtain ⟨c0, c1, c2, c3, c4, c5, cf⟩ := hM.cells
  have MT := Lib.hid (tmin_any bt S (ksOf X.L) K w hM.tree)
  have HM := Lib.hid hM
  clear h hM
  go_enter_d Try.func85, Try.ntmps85
  go_wp2_with fail
  refine MT.out.mono ?_
  rintro e w1 ⟨he, hb⟩
  have hM1 := HM.out.below hb
  cases hh : (ksOf X.L).head? with
  | none =>
    rw [hh] at he
    replace he : e = .returned (.tuple #[.agg #[.int .i64 0, .int .i64 0], .bool false]) := he
    subst he
    have HH := Lib.hid hh
    have HB := Lib.hid hb
    clear hh hb hM1 MT c0 c1 c2 c3 c4 c5 cf
    go_wp2_with fail
    go_end0
    have hb := HB.out.alloc HB.out.size (.cells #[Value.int IntKind.i64 0, Value.int IntKind.i64 0] 144)
    have e1 : X.raise = X := by
      unfold QS.raise
      rw [HH.out]
    rw [e1]
    exact ⟨rfl, ⟨⟨bm, bt, S, g, HM.out.below hb, rfl⟩, Turns.of_below hb, fun _ h => .inl h⟩⟩
  | some k =>
    obtain ⟨k1, k2⟩ := k
    rw [hh] at he
    replace he : e = .returned (.tuple #[.agg #[.int .i64 k1, .int .i64 k2], .bool true]) := he
    subst he
    clear c0 c1 c2 c3 c4 c5 cf
    obtain ⟨W1, hW1⟩ : ∃ W1, W1 = w1.alloc (.cells #[.int .i64 k1, .int .i64 k2] 144) := ⟨_, rfl⟩
    have hb1 : Below w1.heap.size w1 W1 := by rw [hW1]; exact (Below.refl _ _).alloc (Nat.le_refl _) _
    have hB := Blk.new w1 #[.int .i64 k1, .int .i64 k2] 144
    rw [← hW1] at hB
    have y0 : W1.cell? ⟨w1.heap.size, 0, none⟩ = some (.int .i64 k1) := Blk.cell hB 0
    have hM2 := hM1.below hb1
    obtain ⟨c0, c1, c2, c3, c4, c5, cf⟩ := hM2.cells
    have z1 : q < W1.heap.size := hM2.blk.lt
    have z2 : w1.heap.size < W1.heap.size := hB.lt
    have HH := Lib.hid hh
    have HB := Lib.hid (hb.trans (hb1.mono hb.size))
    have HM1 := Lib.hid hM2
    have HW1 := Lib.hid hW1
    clear hh hb hM1 MT hb1 hB hM2 hW1
    have MH := Lib.hid fun W (hW : Below W1.heap.size W1 W) (h : W.cell? ⟨W1.heap.size, 0, none⟩ = some (.int .i64 k1)) => (higher_one X.mn W1.heap.size k1 W h).mono (R' := fun e w5 => e = .returned (.int .i64 (max X.mn k1)) ∧ (w5.cell? ⟨q, 3, none⟩ = some (.int .i64 X.mn) ∧ w5.frozen? ⟨q, 3, none⟩ = false) ∧ Hid (Below W1.heap.size W1 w5)) fun e w5 hp => by
      obtain ⟨rfl, rfl⟩ := hp
      have hq := HM1.out.below hW
      exact ⟨rfl, ⟨hq.cells.2.2.2.1, hq.cells.2.2.2.2.2.2 3⟩, hW⟩
    go_wp2_with fail
    rw [← HW1.out]
    clear HW1
    go_region_with (go_at_call 121; refine (MH.out _ (by first | exact ((Below.refl _ _).drew).alloc (Nat.le_refl _) _ | exact ((Below.refl _ _).alloc (Nat.le_refl _) _).drew | exact (Below.refl _ _).alloc (Nat.le_refl _) _) (by simp [go_sem])).mono ?_; rintro e w5 ⟨rfl, ⟨x3, x4⟩, hB5⟩)
    all_goals
      go_wp2_with fail
      go_end0
      exact ⟨rfl, raise_end HM.out HM1.out HB.out hB5.out HH.out⟩

end Go.Proofs.Ytkemhcokkaanfaa
