/-
  RunqNear: whatever wakes, sleeps, weighs more or less, is served, or yields, all vruntimes lie near the least one: whatever the terms and the pieces of work.
-/
import Derived.Test.YtkemhcokkaanfaaBp
namespace Go.Proofs.Ytkemhcokkaanfaa
open Go.ChangeShapes Go.WideShapes Go.ChangeAt Go.RowKit Go.Deep Go.Maps

namespace runqNear
set_option maxRecDepth 100000 in
set_option maxHeartbeats 64000000 in
theorem walk (c g t : Nat) (A : Option Addr) (xs : List WK) (cc : Nat) (hc : c < 65536) (hg : g < 65536) (ht : t < 65536) (w : World) (hU : RowW w w.heap.size A xs) (hX : ∀ x ∈ xs, x.num) (hL : xs.length ≤ 9223372036854775807) :
    Calls Try.prog 20 #[.agg #[.int .u16 c, .int .u16 g, .int .u16 t], .slice A xs.length cc] w fun e w' => e = .returned (.bool true) ∧ Below w.heap.size w w' := by
  have HT : Hid (Terms (c : Int) (g : Int) (1 + t)) := Lib.hid ⟨by omega, by omega, by omega, by omega, by omega, by omega⟩
  have HU := Lib.hid hU
  have HX := Lib.hid hX
  clear hU hX
  obtain ⟨n, hn⟩ : ∃ n, n = xs.length := ⟨_, rfl⟩
  rw [← hn] at hL ⊢
  have HN := Lib.hid hn
  clear hn
  have MS := Lib.hid fun W => set_any c g t hc hg ht W
  go_enter Try.func20, Try.ntmps20
  go_wp2_with fail
  refine (awake08 _).mono ?_
  rintro r w1 ⟨rfl, hb1⟩
  have hn0 := Blk.new w #[.int .u16 c, .int .u16 g, .int .u16 t] 111
  have y0 : w1.cell? ⟨w.heap.size, 0, none⟩ = some (.int .u16 c) := (hb1.cell (p := ⟨w.heap.size, 0, none⟩) (by simp)).trans (Blk.cell hn0 0)
  have y1 : w1.cell? ⟨w.heap.size, 1, none⟩ = some (.int .u16 g) := (hb1.cell (p := ⟨w.heap.size, 1, none⟩) (by simp)).trans (Blk.cell hn0 1)
  have y2 : w1.cell? ⟨w.heap.size, 2, none⟩ = some (.int .u16 t) := (hb1.cell (p := ⟨w.heap.size, 2, none⟩) (by simp)).trans (Blk.cell hn0 2)
  have hb1' : Below w.heap.size w w1 := ((Below.refl _ _).alloc (Nat.le_refl _) _).trans (hb1.mono (by simp))
  have HB1 := Lib.hid hb1'
  clear hb1 hb1' hn0
  go_wp2_with (go_at_call 71; refine (MS.out _).mono ?_; rintro r w2 ⟨p, q, rfl, H2⟩)
  have HS := Lib.hid (bst_start H2.out HT.out)
  clear y0 y1 y2 H2
  go_loopw [7] (fun s7 wr => ∃ (k : Nat) (B : BS), k ≤ n ∧ k ≤ 200 ∧ s7 = .int .i64 k ∧ Hid (Bst ⟨w1, []⟩ wr p q c g (1 + t) k B)) (fun s7 _ => n - (intOf s7).toNat)
  case atStart => exact ⟨0, _, by omega, by omega, rfl, HS⟩
  case round =>
    obtain ⟨k, B, hk, hk200, rfl, HB⟩ := hrel
    clear HS
    by_cases hgo : k < n ∧ k < 200
    · obtain ⟨hlt, h200⟩ := hgo
      have hk1 : k < xs.length := by rw [← HN.out]; exact hlt
      obtain ⟨b, off, rfl, hb, hcc⟩ := HU.out.at_ (by omega)
      have hBw := HB1.out.trans (HB.out.at_.base.mono HB1.out.size)
      obtain ⟨x0, x1, x2, x3, x4⟩ := (hcc k hk1).below hBw hb
      have hxn := HX.out (xs.getD k WK.nil) (by rw [getD_wk xs hk1]; exact List.getElem_mem _)
      clear hcc hBw hk1
      generalize xs.getD k WK.nil = x at *
      have MW := Lib.hid (bst_work HB.out HT.out (by omega) x hxn true)
      generalize workB c g (1 + t) B x true = B2 at *
      generalize servedB g (1 + t) B x true = sb at *
      generalize nsB (1 + t) x sb = nb at *
      have z1 : decide ((k : Int) < (n : Int)) = true := decide_eq_true (by omega)
      have z2 : decide (k < n) = true := decide_eq_true hlt
      have z3 : decide ((k : Int) < 200) = true := decide_eq_true (by omega)
      have z4 : decide (k < 200) = true := decide_eq_true h200
      have j0 : (0 : Int) ≤ (k : Int) := Int.natCast_nonneg _
      have j1 : (k : Int) < (n : Int) := by omega
      clear hxn
      go_wp2_with (first
        | (go_at_call 72; refine MW.out.mono ?_; rintro r w3 ⟨rfl, H3⟩; have q3 := H3.out.at_.bench.q0)
        | (go_at_call 33; refine (bst_ents H3.out).mono ?_; rintro r w4 ⟨A4, c4, rfl, H4⟩))
      clear x0 x1 x2 x3 x4 MW
      have H5 := Lib.hid (H3.out.below H4.out.2.2)
      have hlen := H4.out.2.1
      obtain ⟨m, hm⟩ : ∃ m, m = B2.X.ents.length := ⟨_, rfl⟩
      rw [← hm] at hlen ⊢
      have HM := Lib.hid hm
      clear q3 hm
      go_loopw [9] (fun s9 wr => ∃ j : Nat, j ≤ m ∧ s9 = .int .i64 j ∧ Hid (Below w4.heap.size w4 wr)) (fun s9 _ => m - (intOf s9).toNat)
      case atStart => exact ⟨0, by omega, rfl, Below.refl _ _⟩
      case round =>
        obtain ⟨j, hj, rfl, HJ⟩ := hrel
        by_cases hlj : j < m
        · have hjm : j < B2.X.ents.length := by rw [← HM.out]; exact hlj
          obtain ⟨b4, o4, rfl, hb4, hc4⟩ := H4.out.1.at_ (by omega)
          obtain ⟨_, _, u2, _⟩ := (hc4 j hjm).below HJ.out hb4
          have hmem := ents_mem H5.out.near.q.ok hjm
          have hlow := H5.out.near.q.low _ hmem
          have hhigh := H5.out.near.q.high _ hmem
          have hmn0 := H5.out.near.q.mn0
          have hmn1 := H5.out.mn
          have H6 := Lib.hid (H5.out.below HJ.out)
          have q0 := H6.out.at_.bench.q0
          have c0 := H6.out.at_.bench.c0
          have g0 := H6.out.at_.bench.g0
          clear hc4 hmem hjm
          generalize (B2.X.ents.getD j En.nil).v = v at *
          obtain ⟨mn, hmn⟩ : ∃ mn, mn = B2.X.mn := ⟨_, rfl⟩
          rw [← hmn] at hlow hhigh hmn0 hmn1
          have MN : Hid (∀ i, Calls Try.prog 35 #[.pointer (some ⟨q, 0, none⟩)] (World.drewN wr i) fun e w' => e = .returned (.int .i64 mn) ∧ World.drewN wr i = w') := Lib.hid fun i => by
            have := qn_min (H6.out.below (below_drewN (Below.refl _ _) i)).at_.new
            rw [← hmn] at this
            exact this
          obtain ⟨mo, hmo⟩ : ∃ mo : Int, mo = ((16 * (1 + t) : Nat) : Int) := ⟨_, rfl⟩
          have MO : Hid (∀ i, Calls Try.prog 74 #[.pointer (some ⟨p, 0, none⟩)] (World.drewN wr i) fun e w' => e = .returned (.int .i64 mo) ∧ World.drewN wr i = w') := Lib.hid fun i => by
            rw [hmo]
            exact most_any p q B2.own c g (1 + t) (by omega) (World.drewN wr i) (H6.out.below (below_drewN (Below.refl _ _) i)).at_.bench
          obtain ⟨lo, hlo⟩ : ∃ lo, lo = mn - (c : Int) := ⟨_, rfl⟩
          obtain ⟨h1, hh1⟩ : ∃ h1, h1 = mn + (g : Int) := ⟨_, rfl⟩
          obtain ⟨h2, hh2⟩ : ∃ h2, h2 = h1 + mo := ⟨_, rfl⟩
          have e1 : IntKind.i64.wrap (mn - (c : Int)) = lo := by rw [IntKind.wrap_i64]; omega
          have e2 : IntKind.i64.wrap (mn + (g : Int)) = h1 := by rw [IntKind.wrap_i64]; omega
          have e3 : IntKind.i64.wrap (h1 + mo) = h2 := by rw [IntKind.wrap_i64]; omega
          have d1 : decide (v < lo) = false := decide_eq_false (by omega)
          have d2 : decide (h2 < v) = false := decide_eq_false (by omega)
          have z5 : decide ((j : Int) < (m : Int)) = true := decide_eq_true (by omega)
          have z6 : decide (j < m) = true := decide_eq_true hlj
          have i0 : (0 : Int) ≤ (j : Int) := Int.natCast_nonneg _
          have i1 : (j : Int) < (m : Int) := by omega
          clear hmn hmo hlo hh1 hh2 hlow hhigh hmn0 hmn1
          go_wp2_with fail
          go_big_quiet ((first | (go_at_call 35; exact quiet_left (MN.out _)) | (go_at_call 74; exact quiet_left (MO.out _))))
          go_wp2_with fail
          go_roundw
          case rel => exact ⟨j + 1, by omega, by go_num, below_drewN HJ.out _⟩
          case measure => simp [intOf]; omega
        · obtain rfl : j = m := by omega
          have z5 : decide ((j : Int) < (j : Int)) = false := decide_eq_false (by omega)
          have H7 := Lib.hid (H5.out.below HJ.out)
          go_wp2_with fail
          go_roundw
          case rel => exact ⟨k + 1, B2, by omega, by omega, by go_num, H7⟩
          case measure => simp [intOf]; omega
    · have hex : (decide ((k : Int) < (n : Int)) = true ∧ decide (k < n) = true ∧ decide ((k : Int) < 200) = false) ∨ (decide ((k : Int) < (n : Int)) = false ∧ decide (k < n) = false) := by
        by_cases hlt : k < n
        · exact .inl ⟨decide_eq_true (by omega), decide_eq_true hlt, decide_eq_false (by omega)⟩
        · exact .inr ⟨decide_eq_false (by omega), decide_eq_false hlt⟩
      have q0 := HB.out.at_.bench.q0
      have MF := Lib.hid (qn_flag HB.out.at_.new)
      rw [HB.out.near.q.over] at MF
      have HBEL := Lib.hid (HB1.out.trans (HB.out.at_.base.mono HB1.out.size))
      clear HU HX HN MS HT
      rcases hex with ⟨z1, z2, z3⟩ | ⟨z1, z2⟩
      all_goals
        go_wp2_with (go_at_call 70; refine MF.out.mono ?_; rintro r w5 ⟨rfl, rfl⟩)
        go_ret
        exact ⟨rfl, HBEL.out⟩

set_option maxRecDepth 100000 in
theorem lifted (os : Os) (started : os.Started) (H : Type) (enc : TypeId × Value → H) :
    ReturnsInHanded {} Try.checked os 20 .any (Rows.runqNearSpec.pre6 enc Try.prog Try.f20 Rows.runqNearRow.domain false) (Rows.runqNearSpec.post enc Try.prog Try.f20 false true false false) := by
  refine returnsInHanded_of_change (C := Try.checked) own started (by as_aux_lemma => kernel_rfl) Try.func20
    (ChangeSpec.witness6 (enc := enc) (C := Try.checked) false ⟨#[], #[.agg #[.int .u16 0, .int .u16 0, .int .u16 0], .slice none 0 0], []⟩ 8 (by as_aux_lemma => kernel_rfl) (by as_aux_lemma => kernel_rfl) (by as_aux_lemma => kernel_rfl) (by as_aux_lemma => kernel_rfl)) ?_
  intro W base args ds gs before hval0 hW hcnd _
  have hval : ∀ (j : Nat) t v, Try.f20.params[j]? = some t → args[j]? = some v → Value.okWide Try.prog W .any base t v := hval0
  have hW' := hW
  obtain ⟨p, q, hA0, hV, rfl, hfz, hnd⟩ := hW
  have hA : DataW.TrodAll enc Try.prog W 0 (fun _ => true) true Try.f20.params.toList args.toList ds p := hA0
  rw [Try.params20] at hA hval
  obtain ⟨v0, vs0, d0, ds0, p0, q0, hargs, rfl, rfl, h0, r0⟩ := trodAll_cons hA
  obtain ⟨v1, vs1, d1, ds1, p1, q1, rfl, rfl, rfl, h1, r1⟩ := trodAll_cons r0
  obtain ⟨rfl, rfl, rfl⟩ := trodAll_nil r1
  obtain rfl : args = #[v0, v1] := by cases args; simp_all
  obtain ⟨ac0, ag0, at0, rfl, bc0, bg0, bt0⟩ := open_terms (hval 0 111 v0 rfl rfl) h0
  obtain ⟨A1, axs1, acc1, rfl, Ud1, Xd1, Ld1⟩ := open_works (hval 1 112 v1 rfl rfl) h1
  refine (walk ac0 ag0 at0 A1 axs1 acc1 bc0 bg0 bt0 W Ud1 Xd1 Ld1).mono fun e W' ⟨he, bel⟩ => ?_
  subst he
  exact ⟨_, rfl, law_post laidOut (by as_aux_lemma => kernel_rfl) rfl Try.underlying4 rfl (fun ds hds => by
    match ds, hds with
    | [x0, x1], _ => rfl) hW' bel⟩

theorem closed : joinedFacts Try.prog 20 Try.f20 Rows.runqNearSpec Rows.runqNearRow = true := by
  unfold joinedFacts
  simp only [Bool.and_eq_true]
  exact ⟨⟨⟨⟨⟨⟨⟨⟨⟨⟨⟨⟨⟨⟨⟨⟨⟨⟨⟨⟨⟨⟨⟨⟨⟨⟨⟨⟨⟨⟨⟨(by as_aux_lemma => kernel_rfl), laidOut⟩, mapsRowedT⟩, (by as_aux_lemma => kernel_rfl)⟩, (by as_aux_lemma => kernel_rfl)⟩, rfl⟩, stopsN⟩, rfl⟩, stopKnobsN⟩, (by as_aux_lemma => kernel_rfl)⟩, (by as_aux_lemma => kernel_rfl)⟩, (by as_aux_lemma => kernel_rfl)⟩, (by as_aux_lemma => kernel_rfl)⟩, (by as_aux_lemma => kernel_rfl)⟩, (by as_aux_lemma => kernel_rfl)⟩, (by as_aux_lemma => kernel_rfl)⟩, (by as_aux_lemma => kernel_rfl)⟩, (by as_aux_lemma => kernel_rfl)⟩, (by as_aux_lemma => kernel_rfl)⟩, (by as_aux_lemma => kernel_rfl)⟩, (by as_aux_lemma => kernel_rfl)⟩, (by as_aux_lemma => kernel_rfl)⟩, plainKeysT⟩, rfl⟩, stopsHeardT⟩, mayEnterT⟩, liftedT⟩, makeT⟩, (by as_aux_lemma => kernel_rfl)⟩, (by as_aux_lemma => kernel_rfl)⟩, (by as_aux_lemma => kernel_rfl)⟩, (by as_aux_lemma => kernel_rfl)⟩

theorem over : Rows.runqNearRow.holds Try.pinned (OpenSpec.ofChange Rows.runqNearSpec) :=
  OpenClaim.holds_of_wide 20 Try.f20 rfl rfl rfl rfl rfl rfl rfl ⟨rfl, rfl, rfl, rfl, rfl⟩ rfl rfl rfl rfl rfl (by as_aux_lemma => kernel_rfl) Try.func20 closed
    (of_decide_eq_true (by as_aux_lemma => kernel_rfl)) (by unfold Func.isWrapper; first | (rw [if_pos (by decide +kernel)]; as_aux_lemma => kernel_rfl) | (rw [if_neg (by decide +kernel)]; exact ⟨rfl, rfl⟩))
    (fun os started H enc _ => lifted os started H enc)

theorem proved : Rows.RunqNearSaid := over
#print axioms proved

end runqNear

end Go.Proofs.Ytkemhcokkaanfaa
