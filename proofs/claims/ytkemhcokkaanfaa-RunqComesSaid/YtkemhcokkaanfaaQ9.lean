/-
  runq.Queue: Ents.
-/
import Derived.Test.YtkemhcokkaanfaaQ6
namespace Go.Proofs.Ytkemhcokkaanfaa
open Go.RowKit Go.Maps

theorem qents_nil (w : World) : Calls Try.prog 33 #[.pointer none] w fun r w' => r = .returned (.slice none 0 0) ∧ w = w' := by
  go_enter Try.func33, Try.ntmps33
  go_wp2_with fail
  go_ret
  exact ⟨rfl, rfl⟩
def ecl (e : En) : List Value := [.int .i64 e.id, .int .u64 e.wt, .int .i64 e.v, .int .u64 e.rem]
theorem infoE : (Try.prog.info? 52).map (fun i => (i.zero, i.size, i.bytes)) = some (some (.agg zeroE), 4, 32) := by kernel_rfl
theorem cell_ent_new (w : World) (a b c d : Value) (t : TypeId) : ∀ j u, [a, b, c, d][j]? = some u → (w.alloc (.cells #[a, b, c, d] t)).cell? ((⟨w.heap.size, 0, none⟩ : Addr).add j) = some u := by
  intro j u hj
  match j, hj with
  | 0, hj => simp at hj; subst hj; simp [go_sem, Addr.add]
  | 1, hj => simp at hj; subst hj; simp [go_sem, Addr.add]
  | 2, hj => simp at hj; subst hj; simp [go_sem, Addr.add]
  | 3, hj => simp at hj; subst hj; simp [go_sem, Addr.add]
  | j + 4, hj => simp at hj
theorem flat_at {α : Type} (cells : α → List Value) (k : Nat) (hk : ∀ d, (cells d).length = k) : ∀ (F : List α) (j i : Nat), i < k → (F.flatMap cells)[j * k + i]? = (F[j]?).bind fun d => (cells d)[i]?
  | [], j, i, _ => by simp
  | d :: F, 0, i, hi => by
    rw [List.flatMap_cons, Nat.zero_mul, Nat.zero_add, List.getElem?_append_left (by rw [hk]; exact hi)]
    rfl
  | d :: F, j + 1, i, hi => by
    have e : (j + 1) * k + i = k + (j * k + i) := by rw [Nat.add_mul]; omega
    rw [List.flatMap_cons, e, List.getElem?_append_right (by rw [hk]; omega), hk, show k + (j * k + i) - k = j * k + i by omega, flat_at cells k hk F j i hi]
    rfl
/-- a row's cells -/
theorem row_cells {w : World} {base : Nat} {e : TypeId} {k n : Nat} {v : Value} {xs : List Value} (h : w.ownsRow base e k v n xs) :
    (v = .slice none 0 0 ∧ n = 0) ∨ ∃ g c, v = .slice (some ⟨g, 0, none⟩) n c ∧ base ≤ g ∧ g < w.heap.size ∧ n ≤ 9223372036854775807 ∧ ∀ i, i < n * k → w.cell? ⟨g, i, none⟩ = xs[i]? := by
  rcases h.2 with h0 | ⟨g, cap, cur, rfl, hbase, hgb, r1, r2, r3, r4⟩
  · exact .inl h0
  · refine .inr ⟨g, cap, rfl, hbase, (Array.getElem?_eq_some_iff.1 hgb).1, by unfold maxLen at r2; omega, fun i hi => ?_⟩
    have : w.cell? ⟨g, i, none⟩ = cur[i]? := by simp [World.cell?, hgb]
    rw [this, ← r4, List.getElem?_take_of_lt hi, Array.getElem?_toList]
theorem ents_len (X : QS) : X.ents.length = (ksOf X.L).length := by simp [QS.ents]
theorem QS.ok.ents_at {X : QS} (h : X.ok) {j : Nat} (hj : j < (ksOf X.L).length) : ∃ e, e ∈ X.L ∧ (ksOf X.L)[j]? = some e.key ∧ X.ents[j]? = some e := by
  obtain ⟨e, he, hk⟩ := ksOf_ent (List.getElem_mem hj)
  refine ⟨e, he, by rw [List.getElem?_eq_getElem hj, hk], ?_⟩
  unfold QS.ents
  rw [List.getElem?_map, List.getElem?_eq_getElem hj, ← hk]
  have : X.get e.key.2 = some e := h.get he
  simp only [Option.map_some, this, Option.getD_some]

set_option maxRecDepth 100000 in
set_option maxHeartbeats 16000000 in
theorem qents_any {w : World} {q : Nat} {F : List Nat} {X : QS} {K : Int} (h : QAt w q F X K) :
    Calls Try.prog 33 #[.pointer (some ⟨q, 0, none⟩)] w fun r w' => ∃ v, r = .returned v ∧ Hid (w'.ownsRow w.heap.size 52 4 v X.ents.length (X.ents.flatMap ecl) ∧ Below w.heap.size w w') := by
  obtain ⟨bm, bt, S, g, hM, rfl⟩ := h.ex
  obtain ⟨c0, c1, c2, c3, c4, c5, cf⟩ := hM.cells
  obtain ⟨i0, hi, iz0, iz1, iz2⟩ := info_parts infoE
  have hlen : (ksOf X.L).length ≤ 128 := Nat.le_trans (ksOf_len _) hM.ok.len
  have MW := Lib.hid (twalk_any bt S (ksOf X.L) K w hM.tree (by omega))
  have HM := Lib.hid hM
  rw [ents_len]
  obtain ⟨n, hn⟩ : ∃ n, n = (ksOf X.L).length := ⟨_, rfl⟩
  rw [← hn] at MW hlen ⊢
  have HN := Lib.hid hn
  clear hM h hn
  go_enter Try.func33, Try.ntmps33
  go_wp2_with fail
  refine MW.out.mono ?_
  rintro r w1 ⟨v1, rfl, HR⟩
  have hz1 := HR.out.2.size
  have hrow := HR.out.1
  obtain ⟨A, c, rfl, hA⟩ : ∃ A c, v1 = .slice A n c ∧ ∀ j e, j < n → (ksOf X.L)[j]? = some e → ∃ b, A = some ⟨b, 0, none⟩ ∧ b < w1.heap.size ∧ w1.cell? ⟨b, j * 2, none⟩ = some (.int .i64 e.1) ∧ w1.cell? ⟨b, j * 2 + 1, none⟩ = some (.int .i64 e.2) := by
    rcases row_cells hrow with ⟨rfl, h0⟩ | ⟨b, c, rfl, _, hb, _, hc⟩
    · exact ⟨none, 0, by rw [h0], fun j e hj => by omega⟩
    · refine ⟨_, c, rfl, fun j e hj he => ⟨b, rfl, hb, ?_, ?_⟩⟩
      · have := flat_at kcells 2 (fun _ => rfl) (ksOf X.L) j 0 (by omega)
        rw [hc (j * 2) (by omega)]
        rw [Nat.add_zero] at this
        rw [this, he]
        rfl
      · have := flat_at kcells 2 (fun _ => rfl) (ksOf X.L) j 1 (by omega)
        rw [hc (j * 2 + 1) (by omega), this, he]
        rfl
  have HA := Lib.hid hA
  clear hrow hA MW c0 c1 c2 c3 c4 c5 cf
  go_wp2_with fail
  go_loopw [3, 14] (fun v s14 wr => ∃ k : Nat, k ≤ n ∧ s14 = .int .i64 k ∧ wr.ownsRow w1.heap.size 52 4 v k ((X.ents.take k).flatMap ecl) ∧ Below w1.heap.size w1 wr) (fun _ s14 _ => n - (intOf s14).toNat)
  case atStart => exact ⟨0, by omega, rfl, by simpa using World.ownsRow_nil _ _ _ _, Below.refl _ _⟩
  case round =>
    obtain ⟨k, hk, rfl, hown, hB⟩ := hrel
    by_cases hgo : k < n
    · obtain ⟨e, he, hek, hee⟩ := HM.out.ok.ents_at (j := k) (by rw [← HN.out]; exact hgo)
      obtain ⟨b, rfl, hbl, b0', b1'⟩ := HA.out k e.key hgo hek
      have b0 : wr.cell? ⟨b, k * 2, none⟩ = some (.int .i64 e.v) := (hB.cell (p := ⟨b, k * 2, none⟩) hbl).trans b0'
      have b1 : wr.cell? ⟨b, k * 2 + 1, none⟩ = some (.int .i64 e.id) := (hB.cell (p := ⟨b, k * 2 + 1, none⟩) hbl).trans b1'
      have z1 : decide ((k : Int) < (n : Int)) = true := decide_eq_true (by omega)
      have z2 : decide (k < n) = true := decide_eq_true hgo
      have j0 : (0 : Int) ≤ (k : Int) := Int.natCast_nonneg _
      have j1 : (k : Int) < (n : Int) := by omega
      have HO := Lib.hid (And.intro hown hB)
      have HE := Lib.hid (And.intro he hee)
      clear he hek hee b0' b1' hown hB
      go_wp2_with fail
      refine wp_world (fun W => (W.cell? ⟨q, 0, none⟩ = some (.map (some bm)) ∧ W.cell? ⟨wr.heap.size, 1, none⟩ = some (.int .i64 e.id) ∧ W.cell? ⟨g e.id, 0, none⟩ = some (.int .i64 e.id) ∧ W.cell? ⟨g e.id, 1, none⟩ = some (.int .u64 e.wt) ∧ W.cell? ⟨g e.id, 2, none⟩ = some (.int .i64 e.v) ∧ W.cell? ⟨g e.id, 3, none⟩ = some (.int .u64 e.rem)) ∧
        (Instr.lookup 135 (.map (some bm)) (.int .i64 e.id) false).run Try.prog W.drew = .ok (.pointer (some ⟨g e.id, 0, none⟩)) W.drew ∧
        Hid (W.drew.ownsRow w1.heap.size 52 4 u3 k ((X.ents.take k).flatMap ecl) ∧ Below w1.heap.size w1 W.drew)) ?_ ?_
      · have hBr := HO.out.2.alloc HO.out.2.size (.cells #[.int .i64 e.v, .int .i64 e.id] 144)
        have hBw : Below w.heap.size w (wr.alloc (.cells #[.int .i64 e.v, .int .i64 e.id] 144)) := HR.out.2.trans (hBr.mono hz1)
        have hM2 := HM.out.below hBw
        have hbe := hM2.ents e HE.out.1
        have heo := HM.out.ok.ents e HE.out.1
        have hlk := HM.out.look (below_drewN hBw 1) e.id (by have := heo.i1; omega) heo.i2
        rw [HM.out.ok.get HE.out.1] at hlk
        exact ⟨⟨hM2.cells.1, Blk.cell (Blk.new wr #[.int .i64 e.v, .int .i64 e.id] 144) 1, Blk.cell hbe 0, Blk.cell hbe 1, Blk.cell hbe 2, Blk.cell hbe 3⟩, hlk, (HO.out.1.alloc _).drew, hBr.drew⟩
      · rintro W ⟨⟨c0, x1, y0, y1, y2, y3⟩, hl, HO2⟩
        clear b0 b1 HO
        have HBR := Lib.hid HO2.out.2
        have hown := HO2.out.1
        have hsz := HO2.out.2.size
        go_region_law (first
          | (refine step_append_where rfl (.tmp 18) (.tmp 28) 47 rfl w1.heap.size 52 i0 _ 4 32 Try.underlying47 hi iz0 iz1 iz2 rfl (by decide) u3 k ((X.ents.take k).flatMap ecl) rfl (hown.alloc _) ⟨W.heap.size, 0, none⟩ 1 1 (ecl e) rfl rfl (cell_ent_new W.drew _ _ _ _ _) (by simp [ecl, Value.oneCell']) (by unfold maxLen; omega) (by omega) (by have h2 := hsz; simp at h2 ⊢; omega) ?_
             intro v' w2 hown2 hgrow _))
        all_goals
          have hB2 : Below w1.heap.size w1 w2 := (HBR.out.alloc (by omega) _).grown hgrow (by have h2 := hsz; simp at h2 ⊢; omega) (fun j hj => (HO2.out.1.lt j hj).1)
          have htk : X.ents.take (k + 1) = X.ents.take k ++ [e] := by
            have hlt : k < X.ents.length := by rw [ents_len, ← HN.out]; exact hgo
            have h2 := HE.out.2
            rw [List.getElem?_eq_getElem hlt] at h2
            have h3 : X.ents[k] = e := by injection h2
            rw [← h3]
            exact (List.take_append_getElem hlt).symm
          have HTK := Lib.hid htk
          clear htk hown
          go_wp2_with fail
          go_roundw
          case rel => exact ⟨k + 1, by omega, by go_num, by rw [HTK.out, List.flatMap_append]; simpa using hown2, hB2⟩
          case measure => simp [intOf]; omega
    · obtain rfl : k = n := by omega
      have z1 : decide ((k : Int) < (k : Int)) = false := decide_eq_false (by omega)
      rw [List.take_of_length_le (by rw [ents_len, ← HN.out]; omega)] at hown
      have HO := Lib.hid (And.intro hown hB)
      clear hown hB
      go_wp2_with fail
      go_ret
      exact ⟨_, rfl, ownsRow_base HO.out.1 HR.out.2.size, HR.out.2.trans (HO.out.2.mono HR.out.2.size)⟩

end Go.Proofs.Ytkemhcokkaanfaa
