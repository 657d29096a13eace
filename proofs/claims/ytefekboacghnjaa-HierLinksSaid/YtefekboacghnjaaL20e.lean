/-
  HierLinks: groups within groups are at most eight deep; one with somebody in it is not taken away, nor moved, nor within itself: whatever the number of groups and the task.
-/
import Derived.Test.YtefekboacghnjaaMv
import Derived.Test.YtefekboacghnjaaMn
import Derived.Test.YtefekboacghnjaaMi
namespace Go.Proofs.Ytefekboacghnjaa
open Go.ChangeShapes Go.WideShapes Go.ChangeAt Go.RowKit Go.Deep Go.Maps

namespace hierLinks
set_option maxRecDepth 100000 in
set_option maxHeartbeats 16000000 in
theorem walk (n t : Nat) (_hn : n < 256) (_ht : t < 256) (w : World) :
    Calls Try.prog 4 #[.int .u8 n, .int .u8 t] w fun e w' => e = .returned (.bool true) ∧ Below w.heap.size w w' := by
  obtain ⟨r12, hr12⟩ : ∃ r12, r12 = n % 12 := ⟨_, rfl⟩
  obtain ⟨tt, htt⟩ : ∃ tt, tt = t % 64 := ⟨_, rfl⟩
  obtain ⟨kk, hkk⟩ : ∃ kk, kk = 1 + r12 := ⟨_, rfl⟩
  obtain ⟨d, hd⟩ : ∃ d, d = min kk 8 := ⟨_, rfl⟩
  have f1 : ((n : Nat) : Int).tmod 12 = (r12 : Int) := by rw [Int.tmod_eq_emod_of_nonneg (Int.natCast_nonneg _)]; omega
  have f2 : ((t : Nat) : Int).tmod 64 = (tt : Int) := by rw [Int.tmod_eq_emod_of_nonneg (Int.natCast_nonneg _)]; omega
  have b1 : r12 < 12 := by omega
  have b2 : tt < 64 := by omega
  have f3 : IntKind.i64.wrap (1 + (r12 : Int)) = (kk : Int) := by rw [IntKind.wrap_i64]; omega
  have f4 : min (kk : Int) 8 = (d : Int) := by omega
  have hk12 : kk ≤ 12 := by omega
  have hk1 : 1 ≤ kk := by omega
  have hd1 : 1 ≤ d := by omega
  have hd8 : d ≤ 8 := by omega
  have HD := Lib.hid hd
  clear hr12 htt hkk hd
  go_enter Try.func4, Try.ntmps4
  go_wp2_with fail
  refine (awake20 w).mono ?_
  rintro r w1 ⟨rfl, hb1⟩
  go_wp2_with fail
  refine (hn_new 0 0 w1).mono ?_
  rintro r w2 ⟨h, rfl, H2⟩
  have HL : Hid (Lnk w1 w2 h 0) := Lib.hid ⟨_, H2.out.1, Chn.new 0 0, new_good 0 0, Tk.new 0 0 0 0, newH_no (by decide), new_zer⟩
  have HB1 := Lib.hid hb1
  clear hb1 H2
  go_wp2_with fail
  go_loopw [8] (fun s8 W => ∃ g : Nat, g ≤ kk ∧ s8 = .int .i64 ((g + 1 : Nat) : Int) ∧ Hid (Lnk w1 W h g)) (fun s8 _ => 13 - (intOf s8).toNat)
  case atStart => exact ⟨0, Nat.zero_le _, rfl, HL⟩
  case round =>
    obtain ⟨g, hg, rfl, HG⟩ := hrel
    obtain ⟨g1, hg1⟩ : ∃ g1, g1 = g + 1 := ⟨_, rfl⟩
    by_cases hgo : g < kk
    · have ML := HG.out.link (by omega)
      rw [← hg1] at ML ⊢
      have e1 : IntKind.i64.wrap ((g1 : Int) - 1) = (g : Int) := by rw [IntKind.wrap_i64]; omega
      have z1 : decide ((g1 : Int) ≤ (kk : Int)) = true := decide_eq_true (by omega)
      have z2 : decide (g1 ≤ kk) = true := decide_eq_true (by omega)
      have h13 : g1 < 13 := by omega
      have HGO := Lib.hid (And.intro hg1 hgo)
      replace ML := Lib.hid ML
      clear hg1 hgo hg
      go_wp2_with fail
      refine ML.out.mono ?_
      rintro r w3 ⟨c, rfl, hc, HG3⟩
      obtain ⟨hg1, hgo⟩ := HGO.out
      by_cases h8 : g < 8
      · have c0 : c = 0 := hc.2 h8
        subst c0
        have z3 : decide ((g1 : Int) ≤ 8) = true := decide_eq_true (by omega)
        have z4 : decide (g1 ≤ 8) = true := decide_eq_true (by omega)
        clear hg1 hgo hc h8
        go_wp2_with fail
        go_roundw
        case rel => exact ⟨g + 1, HGO.out.2, by rw [← HGO.out.1]; go_num, HGO.out.1 ▸ HG3⟩
        case measure => simp [intOf]; omega
      · have c0 : (c == 0) = false := by rw [beq_eq_false_iff_ne]; exact fun e => h8 (hc.1 e)
        have c1 : decide (c = 0) = false := decide_eq_false fun e => h8 (hc.1 e)
        have z3 : decide ((g1 : Int) ≤ 8) = false := decide_eq_false (by omega)
        have z4 : decide (g1 ≤ 8) = false := decide_eq_false (by omega)
        clear hg1 hgo hc h8
        go_wp2_with fail
        go_roundw
        case rel => exact ⟨g + 1, HGO.out.2, by rw [← HGO.out.1]; go_num, HGO.out.1 ▸ HG3⟩
        case measure => simp [intOf]; omega
    · obtain rfl : g = kk := by omega
      have z1 : decide (((g1 : Nat) : Int) ≤ (g : Int)) = false := decide_eq_false (by omega)
      have z2 : decide (g1 ≤ g) = false := decide_eq_false (by omega)
      have MS := Lib.hid (HG.out.std HD.out.symm (tt : Int))
      rw [← hg1]
      have M1 := Lib.hid (MS.out.loop hd1)
      have M2 := Lib.hid (MS.out.put (by decide) hd1 (Int.natCast_nonneg _) (by omega))
      clear hg hgo hg1 HG
      go_wp2_with (go_at_call 29; refine M1.out.mono ?_; rintro r w' ⟨rfl, rfl⟩)
      refine M2.out.mono ?_
      rintro r w4 ⟨rfl, H4⟩
      have M3 := Lib.hid (H4.out.busy hd1)
      clear M1 M2 MS
      go_wp2_with fail
      refine M3.out.mono ?_
      rintro r w5 ⟨rfl, H5⟩
      have M4 := Lib.hid (H5.out.far hd1)
      clear M3 H4
      go_wp2_with fail
      refine M4.out.mono ?_
      rintro r w6 ⟨rfl, H6⟩
      have M5 := Lib.hid (H6.out.moveBusy hd1)
      clear M4 H5
      go_wp2_with fail
      refine M5.out.mono ?_
      rintro r w7 ⟨rfl, H7⟩
      have M6 := Lib.hid (H7.out.drop (by decide) hd1 (Int.natCast_nonneg _) (by omega))
      clear M5 H6
      go_wp2_with fail
      refine M6.out.mono ?_
      rintro r w8 ⟨e, rfl, H8⟩
      clear M6 H7
      have H9 := Lib.hid (H8.out.below ((Below.refl w8.heap.size w8).alloc (Nat.le_refl _) (.cells #[.int .i64 e.id, .int .u64 e.wt, .int .i64 e.v, .int .u64 e.rem] 32)))
      have M7 := H9.out.move hd1
      by_cases h8 : d = 8
      · rw [if_pos h8] at M7
        replace M7 := Lib.hid M7
        have z3 : decide ((d : Int) < 8) = false := decide_eq_false (by omega)
        have z4 : decide (d < 8) = false := decide_eq_false (by omega)
        have z5 : ((d : Int) == 8) = true := by rw [beq_iff_eq]; omega
        have z6 : decide (d = 8) = true := decide_eq_true h8
        have z7 : decide ((d : Int) = 8) = true := decide_eq_true (by omega)
        clear h8
        go_wp2_with fail
        refine M7.out.mono ?_
        rintro r w9 ⟨rfl, HT9⟩
        have M8 := Lib.hid (HT9.out.unlink hd1)
        clear M7 H9 H8
        go_wp2_with fail
        refine M8.out.mono ?_
        rintro r w10 ⟨rfl, HF⟩
        go_wp2_with fail
        go_ret
        exact ⟨rfl, HB1.out.trans (HF.out.mono HB1.out.size)⟩
      · rw [if_neg h8] at M7
        replace M7 := Lib.hid M7
        have z3 : decide ((d : Int) < 8) = true := decide_eq_true (by omega)
        have z4 : decide (d < 8) = true := decide_eq_true (by omega)
        have z5 : ((d : Int) == 8) = false := by rw [beq_eq_false_iff_ne]; omega
        have z6 : decide (d = 8) = false := decide_eq_false h8
        have z7 : decide ((d : Int) = 8) = false := decide_eq_false (by omega)
        clear h8
        go_wp2_with fail
        refine M7.out.mono ?_
        rintro r w9 ⟨rfl, HT9⟩
        have M8 := Lib.hid (HT9.out.unlink hd1)
        clear M7 H9 H8
        go_wp2_with fail
        refine M8.out.mono ?_
        rintro r w10 ⟨rfl, HF⟩
        go_wp2_with fail
        go_ret
        exact ⟨rfl, HB1.out.trans (HF.out.mono HB1.out.size)⟩

set_option maxRecDepth 100000 in
theorem lifted (os : Os) (started : os.Started) (H : Type) (enc : TypeId × Value → H) :
    ReturnsInHanded {} Try.checked os 4 .any (Rows.hierLinksSpec.pre6 enc Try.prog Try.f4 Rows.hierLinksRow.domain false) (Rows.hierLinksSpec.post enc Try.prog Try.f4 false true false false) := by
  refine returnsInHanded_of_change (C := Try.checked) own started (by as_aux_lemma => kernel_rfl) Try.func4
    (ChangeSpec.witness6 (enc := enc) (C := Try.checked) false ⟨#[], #[.int .u8 0, .int .u8 0], []⟩ 8 (by as_aux_lemma => kernel_rfl) (by as_aux_lemma => kernel_rfl) (by as_aux_lemma => kernel_rfl) (by as_aux_lemma => kernel_rfl)) ?_
  intro W base args ds gs before hval0 hW hcnd _
  have hval : ∀ (j : Nat) t v, Try.f4.params[j]? = some t → args[j]? = some v → Value.okWide Try.prog W .any base t v := hval0
  have hW' := hW
  obtain ⟨p, q, hA0, hV, rfl, hfz, hnd⟩ := hW
  have hA : DataW.TrodAll enc Try.prog W 0 (fun _ => true) true Try.f4.params.toList args.toList ds p := hA0
  rw [Try.params4] at hA hval
  obtain ⟨v0, vs0, d0, ds0, p0, q0, hargs, rfl, rfl, h0, r0⟩ := trodAll_cons hA
  obtain ⟨v1, vs1, d1, ds1, p1, q1, rfl, rfl, rfl, h1, r1⟩ := trodAll_cons r0
  obtain ⟨rfl, rfl, rfl⟩ := trodAll_nil r1
  obtain rfl : args = #[v0, v1] := by cases args; simp_all
  obtain ⟨a0, rfl, b0⟩ := open_u8 Try.underlying5 (hval 0 5 v0 rfl rfl) h0
  obtain ⟨a1, rfl, b1⟩ := open_u8 Try.underlying5 (hval 1 5 v1 rfl rfl) h1
  refine (walk a0 a1 b0 b1 W).mono fun e W' ⟨he, bel⟩ => ?_
  subst he
  exact ⟨_, rfl, law_post laidOut (by as_aux_lemma => kernel_rfl) rfl Try.underlying4 rfl (fun ds hds => by
    match ds, hds with
    | [x0, x1], _ => rfl) hW' bel⟩

theorem closed : joinedFacts Try.prog 4 Try.f4 Rows.hierLinksSpec Rows.hierLinksRow = true := by
  unfold joinedFacts
  simp only [Bool.and_eq_true]
  exact ⟨⟨⟨⟨⟨⟨⟨⟨⟨⟨⟨⟨⟨⟨⟨⟨⟨⟨⟨⟨⟨⟨⟨⟨⟨⟨⟨⟨⟨⟨⟨(by as_aux_lemma => kernel_rfl), laidOut⟩, mapsRowedT⟩, (by as_aux_lemma => kernel_rfl)⟩, (by as_aux_lemma => kernel_rfl)⟩, rfl⟩, stopsN⟩, rfl⟩, stopKnobsN⟩, (by as_aux_lemma => kernel_rfl)⟩, (by as_aux_lemma => kernel_rfl)⟩, (by as_aux_lemma => kernel_rfl)⟩, (by as_aux_lemma => kernel_rfl)⟩, (by as_aux_lemma => kernel_rfl)⟩, (by as_aux_lemma => kernel_rfl)⟩, (by as_aux_lemma => kernel_rfl)⟩, (by as_aux_lemma => kernel_rfl)⟩, (by as_aux_lemma => kernel_rfl)⟩, (by as_aux_lemma => kernel_rfl)⟩, (by as_aux_lemma => kernel_rfl)⟩, (by as_aux_lemma => kernel_rfl)⟩, (by as_aux_lemma => kernel_rfl)⟩, plainKeysT⟩, rfl⟩, stopsHeardT⟩, mayEnterT⟩, liftedT⟩, makeT⟩, (by as_aux_lemma => kernel_rfl)⟩, (by as_aux_lemma => kernel_rfl)⟩, (by as_aux_lemma => kernel_rfl)⟩, (by as_aux_lemma => kernel_rfl)⟩

theorem over : Rows.hierLinksRow.holds Try.pinned (OpenSpec.ofChange Rows.hierLinksSpec) :=
  OpenClaim.holds_of_wide 4 Try.f4 rfl rfl rfl rfl rfl rfl rfl ⟨rfl, rfl, rfl, rfl, rfl⟩ rfl rfl rfl rfl rfl (by as_aux_lemma => kernel_rfl) Try.func4 closed
    (of_decide_eq_true (by as_aux_lemma => kernel_rfl)) (by unfold Func.isWrapper; first | (rw [if_pos (by decide +kernel)]; as_aux_lemma => kernel_rfl) | (rw [if_neg (by decide +kernel)]; exact ⟨rfl, rfl⟩))
    (fun os started H enc _ => lifted os started H enc)

theorem proved : Rows.HierLinksSaid := over
#print axioms proved


end hierLinks

end Go.Proofs.Ytefekboacghnjaa
