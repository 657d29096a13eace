/-
  HierRuns: whatever the terms and the pieces of work, somebody runs exactly where some task is there that no stopped group holds; and who runs is such a one.
-/
import Derived.Test.YtefekboacghnjaaMr
namespace Go.Proofs.Ytefekboacghnjaa
open Go.ChangeShapes Go.WideShapes Go.ChangeAt Go.RowKit Go.Deep Go.Maps

namespace hierRuns
set_option maxRecDepth 100000 in
set_option maxHeartbeats 64000000 in
theorem walk (a b d : Nat) (A : Option Addr) (xs : List FW) (cc : Nat) (ha : a < 65536) (hb : b < 65536) (hd : d < 65536) (w : World) (hU : RowF w w.heap.size A xs) (hX : ∀ x ∈ xs, x.num) (hL : xs.length ≤ 9223372036854775807) :
    Calls Try.prog 5 #[termsV a b d, .slice A xs.length cc] w fun e w' => e = .returned (.bool true) ∧ Below w.heap.size w w' := by
  have HU := Lib.hid hU
  have HX := Lib.hid hX
  clear hU hX
  obtain ⟨n, hn⟩ : ∃ n, n = xs.length := ⟨_, rfl⟩
  rw [← hn] at hL ⊢
  have HN := Lib.hid hn
  clear hn
  have MS := Lib.hid fun W => start_round a b d ha hb hd W
  obtain ⟨W1, hW1⟩ : ∃ W1, W1 = w.alloc (.cells #[.int .u16 (a : Nat), .int .u16 (b : Nat), .int .u16 (d : Nat)] 60) := ⟨_, rfl⟩
  have hb1 : Below w.heap.size w W1 := by rw [hW1]; exact (Below.refl _ _).alloc (Nat.le_refl _) _
  have hn0 : Blk W1 w.heap.size #[.int .u16 (a : Nat), .int .u16 (b : Nat), .int .u16 (d : Nat)] 60 := by rw [hW1]; exact Blk.new _ _ _
  go_enter Try.func5, Try.ntmps5
  go_wp2_with fail
  rw [← hW1]
  refine (awake20 W1).mono ?_
  rintro r w1 ⟨rfl, hb2⟩
  have hn1 := hn0.below hb2 hn0.lt
  have y0 : w1.cell? ⟨w.heap.size, 0, none⟩ = some (.int .u16 (a : Nat)) := Blk.cell hn1 0
  have y1 : w1.cell? ⟨w.heap.size, 1, none⟩ = some (.int .u16 (b : Nat)) := Blk.cell hn1 1
  have y2 : w1.cell? ⟨w.heap.size, 2, none⟩ = some (.int .u16 (d : Nat)) := Blk.cell hn1 2
  have HB1 := Lib.hid (hb1.trans (hb2.mono hb1.size))
  clear hW1 hb1 hb2 hn0 hn1
  go_wp2_with fail
  refine (MS.out _).mono ?_
  rintro r w2 ⟨p, h, rfl, HS⟩
  clear y0 y1 y2 MS
  go_wp2_with fail
  obtain ⟨t, ht⟩ : ∃ t, t = 1 + d := ⟨_, rfl⟩
  rw [← ht] at HS
  have ht2 : t ≤ 65536 := by omega
  clear ht
  go_loopw [7] (fun s7 wr => ∃ (k : Nat) (X : FSt), k ≤ n ∧ k ≤ 120 ∧ s7 = .int .i64 k ∧ Hid (FRound w1 wr p h a b t k X)) (fun s7 _ => n - (intOf s7).toNat)
  case atStart => exact ⟨0, _, by omega, by omega, rfl, HS⟩
  case round =>
    obtain ⟨k, X, hk, hk120, rfl, HB⟩ := hrel
    clear HS
    by_cases hgo : k < n ∧ k < 120
    · obtain ⟨hlt, h120⟩ := hgo
      have hk1 : k < xs.length := by rw [← HN.out]; exact hlt
      obtain ⟨b5, off, rfl, hb5, hcc⟩ := HU.out.at_ (by omega)
      have hBw := HB1.out.trans (HB.out.at_.base.mono HB1.out.size)
      obtain ⟨x0, x1, x2, x3, x4⟩ := (hcc k hk1).below hBw hb5
      have hxn := HX.out (xs.getD k FW.nil) (by rw [getD_fw xs hk1]; exact List.getElem_mem _)
      clear hcc hBw hk1
      generalize xs.getD k FW.nil = x at *
      have MW := Lib.hid (HB.out.work (by omega) (by omega) (by omega) ht2 x hxn)
      have HR := Lib.hid (HB.out.ok.work_runs t x)
      generalize workF a t X x = X2 at *
      have z1 : decide ((k : Int) < (n : Int)) = true := decide_eq_true (by omega)
      have z2 : decide (k < n) = true := decide_eq_true hlt
      have z3 : decide ((k : Int) < 120) = true := decide_eq_true (by omega)
      have z4 : decide (k < 120) = true := decide_eq_true h120
      have j0 : (0 : Int) ≤ (k : Int) := Int.natCast_nonneg _
      have j1 : (k : Int) < (n : Int) := by omega
      clear hxn
      go_wp2_with fail
      refine MW.out.mono ?_
      rintro r w3 ⟨rfl, H3⟩
      clear x0 x1 x2 x3 x4 MW
      go_wp2_with fail
      go_loopw [8, 9] (fun s8 s9 wr => ∃ i : Nat, i ≤ 8 ∧ s9 = .int .i64 i ∧ s8 = .bool (someF X2 i) ∧ Hid (Below w3.heap.size w3 wr)) (fun _ s9 _ => 8 - (intOf s9).toNat)
      case atStart => exact ⟨0, by omega, rfl, rfl, Below.refl _ _⟩
      case round =>
        obtain ⟨i, hi, rfl, rfl, HJ⟩ := hrel
        by_cases hli : i = 8
        · subst hli
          have H6 := Lib.hid (H3.out.below HJ.out)
          have MR := Lib.hid (fq_run H6.out.at_ H6.out.ok.good)
          have q0 := H6.out.at_.farm.h0
          have HOK := Lib.hid H6.out.ok
          obtain ⟨sb, hsb⟩ : ∃ sb, sb = someF X2 8 := ⟨_, rfl⟩
          rw [← hsb]
          have HA := Lib.hid (show FRound w1 wr p h a b t (k + 1) X2 from H6.out)
          rcases HR.out with ⟨hr1, hr2⟩ | ⟨m, hm, hr1, hr2, hr3⟩
          · have hs0 := some_none hr2 8 (Nat.le_refl _)
            rw [hs0] at hsb
            rw [hr1] at MR
            subst hsb
            clear hs0 hr1 hr2 HR
            go_wp2_with fail
            refine MR.out.mono ?_
            rintro r w5 ⟨rfl, H7⟩
            clear MR q0
            go_wp2_with fail
            go_roundw
            case rel => exact ⟨k + 1, X2, by omega, by omega, by go_num, Lib.hid ⟨H7.out, HOK.out⟩⟩
            case measure => simp [intOf]; omega
          · have hs0 := some_one (m := m) (by rw [hr2, hr3]; rfl) 8 hm
            rw [hs0] at hsb
            rw [hr1] at MR
            subst hsb
            have HR2 := Lib.hid (And.intro hr2 hr3)
            have i0 : (0 : Int) ≤ (m : Int) := Int.natCast_nonneg _
            have i1 : (m : Int) < 8 := by omega
            have i2 : decide ((7 : Int) < (m : Int)) = false := decide_eq_false (by omega)
            have i3 : decide (m < 8) = true := decide_eq_true hm
            have i4 : decide ((0 : Int) ≤ (m : Int)) = true := decide_eq_true (by omega)
            have i5 : decide (7 < m) = false := decide_eq_false (by omega)
            clear hs0 hr1 hr2 hr3 HR
            go_wp2_with fail
            refine MR.out.mono ?_
            rintro r w5 ⟨rfl, H7⟩
            have h7 := H7.out.farm.here m hm
            have MF := Lib.hid (free_any H7.out HOK.out m hm)
            rw [HR2.out.1] at h7
            rw [HR2.out.2] at MF
            clear MR q0
            go_wp2_with fail
            refine MF.out.mono ?_
            rintro r w6 ⟨rfl, hb6⟩
            have H8 := Lib.hid (H7.out.below hb6)
            clear MF hb6 h7
            go_wp2_with fail
            go_roundw
            case rel => exact ⟨k + 1, X2, by omega, by omega, by go_num, Lib.hid ⟨H8.out, HOK.out⟩⟩
            case measure => simp [intOf]; omega
        · have hi8 : i < 8 := by omega
          have H6 := Lib.hid (H3.out.below HJ.out)
          have h7 := H6.out.at_.farm.here i hi8
          have MF := Lib.hid (free_any H6.out.at_ H6.out.ok i hi8)
          have hst : someF X2 (i + 1) = (someF X2 i || (X2.here i && freeF X2.S (homeN i))) := rfl
          obtain ⟨sb, hsb⟩ : ∃ sb, sb = someF X2 i := ⟨_, rfl⟩
          obtain ⟨sb2, hsb2⟩ : ∃ sb2, sb2 = someF X2 (i + 1) := ⟨_, rfl⟩
          obtain ⟨fb, hfb⟩ : ∃ fb, fb = freeF X2.S (homeN i) := ⟨_, rfl⟩
          obtain ⟨hh, hhh⟩ : ∃ hh, hh = X2.here i := ⟨_, rfl⟩
          rw [← hsb, ← hfb, ← hhh, ← hsb2] at hst
          rw [← hsb]
          rw [← hfb] at MF
          rw [← hhh] at h7
          have HST := Lib.hid (And.intro hst hsb2)
          have i0 : (0 : Int) ≤ (i : Int) := Int.natCast_nonneg _
          have i1 : (i : Int) < 8 := by omega
          have i3 : decide (i < 8) = true := decide_eq_true hi8
          have i4 : decide ((i : Int) < 8) = true := decide_eq_true i1
          clear hst hsb hsb2 hfb hhh hli
          cases hh with
          | false =>
            cases sb
            all_goals
              go_wp2_with fail
              go_roundw
              case rel =>
                refine ⟨i + 1, hi8, by go_num, ?_, HJ.out⟩
                rw [← HST.out.2, HST.out.1]
                rfl
              case measure => simp [intOf]; omega
          | true =>
            cases sb
            all_goals
              go_wp2_with fail
              refine MF.out.mono ?_
              rintro r w6 ⟨rfl, hb6⟩
              have HB6 := Lib.hid (HJ.out.trans (hb6.mono HJ.out.size))
              clear hb6
              go_wp2_with fail
              go_roundw
              case rel =>
                refine ⟨i + 1, hi8, by go_num, ?_, HB6.out⟩
                rw [← HST.out.2, HST.out.1]
                rfl
              case measure => simp [intOf]; omega
    · have hex : (decide ((k : Int) < (n : Int)) = true ∧ decide (k < n) = true ∧ decide ((k : Int) < 120) = false) ∨ (decide ((k : Int) < (n : Int)) = false ∧ decide (k < n) = false) := by
        by_cases hlt : k < n
        · exact .inl ⟨decide_eq_true (by omega), decide_eq_true hlt, decide_eq_false (by omega)⟩
        · exact .inr ⟨decide_eq_false (by omega), decide_eq_false hlt⟩
      have HBEL := Lib.hid (HB1.out.trans (HB.out.at_.base.mono HB1.out.size))
      clear HU HX HN
      rcases hex with ⟨z1, z2, z3⟩ | ⟨z1, z2⟩
      all_goals
        go_wp2_with fail
        go_ret
        exact ⟨rfl, HBEL.out⟩
set_option maxRecDepth 100000 in
theorem lifted (os : Os) (started : os.Started) (H : Type) (enc : TypeId × Value → H) :
    ReturnsInHanded {} Try.checked os 5 .any (Rows.hierRunsSpec.pre6 enc Try.prog Try.f5 Rows.hierRunsRow.domain false) (Rows.hierRunsSpec.post enc Try.prog Try.f5 false true false false) := by
  refine returnsInHanded_of_change (C := Try.checked) own started (by as_aux_lemma => kernel_rfl) Try.func5
    (ChangeSpec.witness6 (enc := enc) (C := Try.checked) false ⟨#[], #[.agg #[.int .u16 0, .int .u16 0, .int .u16 0], .slice none 0 0], []⟩ 8 (by as_aux_lemma => kernel_rfl) (by as_aux_lemma => kernel_rfl) (by as_aux_lemma => kernel_rfl) (by as_aux_lemma => kernel_rfl)) ?_
  intro W base args ds gs before hval0 hW hcnd _
  have hval : ∀ (j : Nat) t v, Try.f5.params[j]? = some t → args[j]? = some v → Value.okWide Try.prog W .any base t v := hval0
  have hW' := hW
  obtain ⟨p, q, hA0, hV, rfl, hfz, hnd⟩ := hW
  have hA : DataW.TrodAll enc Try.prog W 0 (fun _ => true) true Try.f5.params.toList args.toList ds p := hA0
  rw [Try.params5] at hA hval
  obtain ⟨v0, vs0, d0, ds0, p0, q0, hargs, rfl, rfl, h0, r0⟩ := trodAll_cons hA
  obtain ⟨v1, vs1, d1, ds1, p1, q1, rfl, rfl, rfl, h1, r1⟩ := trodAll_cons r0
  obtain ⟨rfl, rfl, rfl⟩ := trodAll_nil r1
  obtain rfl : args = #[v0, v1] := by cases args; simp_all
  obtain ⟨ac0, ag0, at0, rfl, bc0, bg0, bt0⟩ := open_terms20 (hval 0 60 v0 rfl rfl) h0
  obtain ⟨A1, axs1, acc1, rfl, Ud1, Xd1, Ld1⟩ := open_works20 (hval 1 61 v1 rfl rfl) h1
  refine (walk ac0 ag0 at0 A1 axs1 acc1 bc0 bg0 bt0 W Ud1 Xd1 Ld1).mono fun e W' ⟨he, bel⟩ => ?_
  subst he
  exact ⟨_, rfl, law_post laidOut (by as_aux_lemma => kernel_rfl) rfl Try.underlying4 rfl (fun ds hds => by
    match ds, hds with
    | [x0, x1], _ => rfl) hW' bel⟩

theorem closed : joinedFacts Try.prog 5 Try.f5 Rows.hierRunsSpec Rows.hierRunsRow = true := by
  unfold joinedFacts
  simp only [Bool.and_eq_true]
  exact ⟨⟨⟨⟨⟨⟨⟨⟨⟨⟨⟨⟨⟨⟨⟨⟨⟨⟨⟨⟨⟨⟨⟨⟨⟨⟨⟨⟨⟨⟨⟨(by as_aux_lemma => kernel_rfl), laidOut⟩, mapsRowedT⟩, (by as_aux_lemma => kernel_rfl)⟩, (by as_aux_lemma => kernel_rfl)⟩, rfl⟩, stopsN⟩, rfl⟩, stopKnobsN⟩, (by as_aux_lemma => kernel_rfl)⟩, (by as_aux_lemma => kernel_rfl)⟩, (by as_aux_lemma => kernel_rfl)⟩, (by as_aux_lemma => kernel_rfl)⟩, (by as_aux_lemma => kernel_rfl)⟩, (by as_aux_lemma => kernel_rfl)⟩, (by as_aux_lemma => kernel_rfl)⟩, (by as_aux_lemma => kernel_rfl)⟩, (by as_aux_lemma => kernel_rfl)⟩, (by as_aux_lemma => kernel_rfl)⟩, (by as_aux_lemma => kernel_rfl)⟩, (by as_aux_lemma => kernel_rfl)⟩, (by as_aux_lemma => kernel_rfl)⟩, plainKeysT⟩, rfl⟩, stopsHeardT⟩, mayEnterT⟩, liftedT⟩, makeT⟩, (by as_aux_lemma => kernel_rfl)⟩, (by as_aux_lemma => kernel_rfl)⟩, (by as_aux_lemma => kernel_rfl)⟩, (by as_aux_lemma => kernel_rfl)⟩

theorem over : Rows.hierRunsRow.holds Try.pinned (OpenSpec.ofChange Rows.hierRunsSpec) :=
  OpenClaim.holds_of_wide 5 Try.f5 rfl rfl rfl rfl rfl rfl rfl ⟨rfl, rfl, rfl, rfl, rfl⟩ rfl rfl rfl rfl rfl (by as_aux_lemma => kernel_rfl) Try.func5 closed
    (of_decide_eq_true (by as_aux_lemma => kernel_rfl)) (by unfold Func.isWrapper; first | (rw [if_pos (by decide +kernel)]; as_aux_lemma => kernel_rfl) | (rw [if_neg (by decide +kernel)]; exact ⟨rfl, rfl⟩))
    (fun os started H enc _ => lifted os started H enc)

theorem proved : Rows.HierRunsSaid := over
#print axioms proved

end hierRuns

end Go.Proofs.Ytefekboacghnjaa
