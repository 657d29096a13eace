/-
  runq.Queue: Weigh.
-/
import Derived.Test.YtkemhcokkaanfaaQ7
namespace Go.Proofs.Ytkemhcokkaanfaa
open Go.RowKit Go.Maps

set_option maxRecDepth 100000 in
theorem qweigh_nil (i : Int) (wn : Nat) (w : World) : Calls Try.prog 63 #[.pointer none, .int .i64 i, .int .u64 wn] w fun r w' => r = .returned (.int .i64 12) ∧ w = w' := by
  go_enter Try.func63, Try.ntmps63
  go_wp2_with fail
  go_ret
  exact ⟨rfl, rfl⟩
theorem weighed_okQ {e : En} (he : e.ok) {w : Nat} (h1 : 2 ≤ w) (h2 : w ≤ 262144) : (weighed e w).ok ∧ mdQ e.rem w e.wt < w := by
  have hr := he.r
  have hw := he.w1
  have hlt : e.rem * w < w * e.wt := by rw [Nat.mul_comm w]; exact Nat.mul_lt_mul_of_pos_right hr (by omega)
  have h3 : e.rem * w / e.wt < w := (Nat.div_lt_iff_lt_mul (by omega)).2 hlt
  have h4 : mdQ e.rem w e.wt < w := by
    unfold mdQ
    split
    · exact h3
    · omega
  exact ⟨⟨he.i1, he.i2, h1, h2, he.v1, he.v2, h4⟩, h4⟩

set_option maxRecDepth 100000 in
set_option maxHeartbeats 16000000 in
theorem qweigh_any {w : World} {q : Nat} {F : List Nat} {X : QS} {K : Int} (h : QAt w q F X K) (i : Int) (i1 : -9223372036854775808 ≤ i) (i2 : i ≤ 9223372036854775807) (wn : Nat) (hwn : wn < 18446744073709551616) :
    Calls Try.prog 63 #[.pointer (some ⟨q, 0, none⟩), .int .i64 i, .int .u64 wn] w fun r w' => ∃ F', r = .returned (.int .i64 (weighC X i wn)) ∧ Hid (QTurned w F q (weighQ X i wn) K w' F') := by
  obtain ⟨bm, bt, S, g, hM, rfl⟩ := h.ex
  have hk1 := hM.k1
  have hk2 := hM.k2
  have hl := hM.look (Below.refl _ _) i i1 i2
  obtain ⟨c0, c1, c2, c3, c4, c5, cf⟩ := hM.cells
  have MM := Lib.hid fun W => qmay_any wn hwn W
  have HS := Lib.hid (at_same hM (Below.refl _ _))
  cases hg : X.get i with
  | none =>
    have hq : weighQ X i wn = X := by unfold weighQ; rw [hg]
    have hc : weighC X i wn = 12 := if_neg (QS.get_none hg)
    rw [hg] at hl
    rw [hq, hc]
    clear hM hg hq hc h
    go_enter Try.func63, Try.ntmps63
    go_wp2_with fail
    go_ret
    exact ⟨rfl, _, HS.out⟩
  | some e =>
    obtain ⟨he, rfl⟩ := QS.get_some hg
    have hm : e.id ∈ X.L.map (·.id) := List.mem_map.2 ⟨e, he, rfl⟩
    rw [hg] at hl
    by_cases k1 : wn < 2 ∨ 262144 < wn
    · have hq : weighQ X e.id wn = X := by unfold weighQ; rw [hg]; exact if_pos k1
      have hc : weighC X e.id wn = 4 := by unfold weighC; rw [if_pos hm, if_pos k1]
      rw [show decide (2 ≤ wn ∧ wn ≤ 262144) = false from decide_eq_false (by omega)] at MM
      rw [hq, hc]
      clear hM hg hq hc h hm
      go_enter Try.func63, Try.ntmps63
      go_wp2_with (go_at_call 84; refine (MM.out _).mono ?_; rintro r w2 ⟨rfl, rfl⟩)
      go_ret
      exact ⟨_, rfl, HS.out⟩
    have hq : weighQ X e.id wn = X.set (weighed e wn) := by unfold weighQ; rw [hg]; exact if_neg k1
    have hc : weighC X e.id wn = 0 := by unfold weighC; rw [if_pos hm, if_neg k1]
    rw [show decide (2 ≤ wn ∧ wn ≤ 262144) = true from decide_eq_true (by omega)] at MM
    have hok := weighed_okQ (hM.ok.ents e he) (w := wn) (by omega) (by omega)
    have heo := hM.ok.ents e he
    have hR := hM.raw he
    have hBe := hM.ents e he
    have y1 : w.cell? ⟨g e.id, 1, none⟩ = some (.int .u64 e.wt) := Blk.cell hBe 1
    have y3 : w.cell? ⟨g e.id, 3, none⟩ = some (.int .u64 e.rem) := Blk.cell hBe 3
    obtain ⟨ld, hld⟩ : ∃ ld, ld = loadL X.L := ⟨_, rfl⟩
    rw [← hld] at hR c4
    have MD := Lib.hid fun W (hW : Below w.heap.size w W) => (mulDiv_any e.rem wn e.wt (by have := heo.r; have := heo.w2; omega) hwn (by have := heo.w2; omega) W).mono (R' := fun r w5 => ∃ a b, r = .returned (.tuple #[.int .u64 (mdQ e.rem wn e.wt : Nat), a, b]) ∧ (w5.cell? ⟨g e.id, 3, none⟩ = some (.int .u64 e.rem) ∧ w5.cell? ⟨g e.id, 1, none⟩ = some (.int .u64 e.wt) ∧ (∀ j, w5.frozen? ⟨g e.id, j, none⟩ = false) ∧ w5.cell? ⟨q, 4, none⟩ = some (.int .u64 (ld : Nat)) ∧ ∀ j, w5.frozen? ⟨q, j, none⟩ = false) ∧ Hid (QRaw w q bm bt S g X w5 S (ksOf X.L) K ld X.over e)) fun r w5 hp => by
      have hB := hW.trans (hp.2.mono hW.size)
      have hr := hR.below hB
      exact ⟨_, _, hp.1, ⟨Blk.cell hr.ent 3, Blk.cell hr.ent 1, Blk.frozen hr.ent, Blk.cell hr.blk 4, Blk.frozen hr.blk⟩, hr⟩
    have HM := Lib.hid (And.intro hM he)
    have HLD := Lib.hid hld
    have HOK := Lib.hid hok
    have hne := Lib.hid (show q ≠ g e.id from Blk.apart hM.blk hBe (by simp))
    rw [hq, hc]
    clear hM hg hq hc h hm he heo hR hBe hld hok HS
    go_enter Try.func63, Try.ntmps63
    go_wp2_with (go_at_call 84; refine (MM.out _).mono ?_; rintro r w2 ⟨rfl, rfl⟩)
    go_region_with (go_at_call 46; refine (MD.out _ (by first | exact (Below.refl _ _).drew | exact Below.refl _ _)).mono ?_; rintro r w5 ⟨a, b, rfl, ⟨z3, z1, zf, x4, xf⟩, HR⟩)
    all_goals
      go_wp2_with fail
      refine wp_world (fun W => (W.cell? ⟨g e.id, 1, none⟩ = some (.int .u64 e.wt) ∧ (∀ j, W.frozen? ⟨g e.id, j, none⟩ = false) ∧ W.cell? ⟨q, 4, none⟩ = some (.int .u64 (ld : Nat)) ∧ ∀ j, W.frozen? ⟨q, j, none⟩ = false) ∧ Hid (QRaw w q bm bt S g X W S (ksOf X.L) K ld X.over { e with rem := mdQ e.rem wn e.wt })) ?_ ?_
      · have hb := Blk.set HR.out.ent 3 (.int .u64 (mdQ e.rem wn e.wt : Nat))
        have hr := HR.out.set_ent (ee' := { e with rem := mdQ e.rem wn e.wt }) rfl hb (fun b hb => Below.heap_setCell _ _ _ _ hb) ((Turns.refl _ _).setCell (.inl (by simp)) _)
        exact ⟨⟨Blk.cell hr.ent 1, Blk.frozen hr.ent, Blk.cell hr.blk 4, Blk.frozen hr.blk⟩, hr⟩
      rintro W ⟨⟨v1, vf, v4, vq⟩, HR2⟩
      clear z3 z1 zf x4 xf HR c0 c1 c2 c3 c4 c5 cf y1 y3 hl
      have hw2 := HM.out.1.ok.ents e HM.out.2
      have hlw := load_less HM.out.1.ok.ids HM.out.2
      have hlb := HM.out.1.ok.load
      have hle := HLD.out
      have e1 : IntKind.u64.wrap ((ld : Int) + IntKind.u64.wrap ((wn : Int) - (e.wt : Int))) = ((ld - e.wt + wn : Nat) : Int) := by
        rw [IntKind.wrap_u64, IntKind.wrap_u64]
        omega
      have HL2 := Lib.hid (show loadL (setL X.L (weighed e wn)) = ld - e.wt + wn by
        have := load_set (e' := weighed e wn) HM.out.1.ok.ids HM.out.2 rfl
        have h2 : (weighed e wn).wt = wn := rfl
        omega)
      generalize ld - e.wt + wn = ld' at *
      clear hlw hlb hle hw2
      go_still_tail 13, (by kernel_rfl)
      change wpList _ _ _ _ _ (W.drew)
      go_wp2_with fail
      go_ret
      have hr1 := HR2.out.below ((Below.refl _ _).drew)
      have hq4 := Blk.set hr1.blk 4 (.int .u64 (ld' : Nat))
      have hr2 := hr1.set_q (over' := X.over) hq4 (fun b hb => Below.heap_setCell _ _ _ _ hb) ((Turns.refl _ _).setCell (.inl (by simp)) _)
      have hb2 := Blk.set hr2.ent 1 (.int .u64 (wn : Nat))
      have hr3 := hr2.set_ent (ee' := weighed e wn) rfl hb2 (fun b hb => Below.heap_setCell _ _ _ _ hb) ((Turns.refl _ _).setCell (.inl (by simp)) _)
      exact ⟨_, rfl, hr3.done (X' := X.set (weighed e wn)) rfl rfl rfl rfl HL2.out.symm (ksOf_set_same (e' := weighed e wn) HM.out.1.ok.ids HM.out.2 rfl).symm (HM.out.1.ok.set HOK.out.1) hk1 hk2⟩

end Go.Proofs.Ytkemhcokkaanfaa
