/-
  HierNear: whatever wakes, sleeps, weighs more or less, stops, is served, or yields, all vruntimes lie near the least one of their queue: whatever the terms and the pieces of work.
-/
import Derived.Test.YtefekboacghnjaaMt
namespace Go.Proofs.Ytefekboacghnjaa
open Go.ChangeShapes Go.WideShapes Go.ChangeAt Go.RowKit Go.Deep Go.Maps

namespace hierNear
set_option maxRecDepth 100000 in
set_option maxHeartbeats 64000000 in
theorem walk (a b d : Nat) (A : Option Addr) (xs : List FW) (cc : Nat) (ha : a < 65536) (hb : b < 65536) (hd : d < 65536) (w : World) (hU : RowF w w.heap.size A xs) (hX : ∀ x ∈ xs, x.num) (hL : xs.length ≤ 9223372036854775807) :
    Calls Try.prog 7 #[termsV a b d, .slice A xs.length cc] w fun e w' => e = .returned (.bool true) ∧ Below w.heap.size w w' := by
  have HU := Lib.hid hU
  have HX := Lib.hid hX
  clear hU hX
  obtain ⟨n, hn⟩ : ∃ n, n = xs.length := ⟨_, rfl⟩
  rw [← hn] at hL ⊢
  have HN := Lib.hid hn
  clear hn
  have MS := Lib.hid fun W => start_round a b d ha hb hd W
  obtain ⟨W1, hW1⟩ : ∃ W1, W1 = w.alloc (.cells #[.int .u16 (a : Nat), .int .u16 (b : Nat), .int .u16 (d : Nat)] 60) := ⟨_, rfl⟩
  have hb1 : Below w.heap.size w W1 := by rw [hW1]; exact (Below.refl _ _).alloc (Nat.le_refl _) _
  have hn0 : Blk W1 w.heap.size #[.int .u16 (a : Nat), .int .u16 (b : Nat), .int .u16 (d : Nat)] 60 := by rw [hW1]; exact Blk.new _ _ _
  go_enter Try.func7, Try.ntmps7
  go_wp2_with fail
  rw [← hW1]
  refine (awake20 W1).mono ?_
  rintro r w1 ⟨rfl, hb2⟩
  have hn1 := hn0.below hb2 hn0.lt
  have y0 : w1.cell? ⟨w.heap.size, 0, none⟩ = some (.int .u16 (a : Nat)) := Blk.cell hn1 0
  have y1 : w1.cell? ⟨w.heap.size, 1, none⟩ = some (.int .u16 (b : Nat)) := Blk.cell hn1 1
  have y2 : w1.cell? ⟨w.heap.size, 2, none⟩ = some (.int .u16 (d : Nat)) := Blk.cell hn1 2
  have HB1 := Lib.hid (hb1.trans (hb2.mono hb1.size))
  clear hW1 hb1 hb2 hn0 hn1
  go_wp2_with fail
  refine (MS.out _).mono ?_
  rintro r w2 ⟨p, h, rfl, HS⟩
  clear y0 y1 y2 MS
  obtain ⟨t, ht⟩ : ∃ t, t = 1 + d := ⟨_, rfl⟩
  rw [← ht] at HS
  have ht2 : t ≤ 65536 := by omega
  have ht1 : 1 ≤ t := by omega
  clear ht
  have HTM : Hid (Terms (a : Int) (b : Int) t) := Lib.hid ⟨by omega, by omega, by omega, by omega, by omega, by omega⟩
  obtain ⟨E, hE⟩ : ∃ E : Int, E = 10 * ((b : Int) + 16 * (t : Int)) := ⟨_, rfl⟩
  have hE0 : 0 ≤ E := by omega
  have hE1 : E ≤ 12000000 := by omega
  have HE := Lib.hid hE
  have q9 := HS.out.at_.farm.h0
  have t9 := HS.out.at_.farm.t0
  obtain ⟨a1, ha1⟩ : ∃ a1 : Int, a1 = 1024 * (t : Int) := ⟨_, rfl⟩
  obtain ⟨a2, ha2⟩ : ∃ a2 : Int, a2 = a1 + 63 := ⟨_, rfl⟩
  obtain ⟨mo, hmo⟩ : ∃ mo : Int, mo = 16 * (t : Int) := ⟨_, rfl⟩
  have e1 : IntKind.u64.wrap (1024 * (t : Int)) = a1 := by rw [IntKind.wrap_u64]; omega
  have e2 : IntKind.u64.wrap (a1 + 63) = a2 := by rw [IntKind.wrap_u64]; omega
  have e3 : a2.tdiv 64 = mo := by rw [Int.tdiv_eq_ediv_of_nonneg (by omega)]; omega
  have e4 : IntKind.i64.wrap mo = mo := by rw [IntKind.wrap_i64]; omega
  have e5 : IntKind.u64.wrap mo = mo := by rw [IntKind.wrap_u64]; omega
  have HMO := Lib.hid hmo
  clear ha1 ha2 hmo hE
  go_wp2_with fail
  clear q9 t9 e1 e2 e3 e4 e5
  go_loopw [8] (fun s8 wr => ∃ (k : Nat) (X : FSt), k ≤ n ∧ k ≤ 120 ∧ s8 = .int .i64 k ∧ Hid (FRound w1 wr p h a b t k X ∧ NearF a b t ((k : Int) * E) X)) (fun s8 _ => n - (intOf s8).toNat)
  case atStart => exact ⟨0, _, by omega, by omega, rfl, HS.out, by rw [show ((0 : Nat) : Int) * E = 0 by simp]; exact start_near HTM.out⟩
  case round =>
    obtain ⟨k, X, hk, hk120, rfl, HB⟩ := hrel
    clear HS
    by_cases hgo : k < n ∧ k < 120
    · obtain ⟨hlt, h120⟩ := hgo
      have hk1 : k < xs.length := by rw [← HN.out]; exact hlt
      obtain ⟨b5, off, rfl, hb5, hcc⟩ := HU.out.at_ (by omega)
      have hBw := HB1.out.trans (HB.out.1.at_.base.mono HB1.out.size)
      obtain ⟨x0, x1, x2, x3, x4⟩ := (hcc k hk1).below hBw hb5
      have hxn := HX.out (xs.getD k FW.nil) (by rw [getD_fw xs hk1]; exact List.getElem_mem _)
      clear hcc hBw hk1
      generalize xs.getD k FW.nil = x at *
      have MW := Lib.hid (HB.out.1.work (by omega) (by omega) (by omega) ht2 x hxn)
      have hkE : (k : Int) * E ≤ 120 * E := Int.mul_le_mul_of_nonneg_right (by omega) hE0
      have hk1E : ((k + 1 : Nat) : Int) * E = (k : Int) * E + E := by rw [Int.natCast_add, Int.add_mul]; omega
      have HR : Hid (NearF a b t (((k + 1 : Nat) : Int) * E) (workF a t X x)) := by
        have := HB.out.2.work HTM.out HB.out.1.ok (by rw [← HE.out]; omega) x
        rw [← HE.out, ← hk1E] at this
        exact Lib.hid this
      have HME : Hid (((k + 1 : Nat) : Int) * E ≤ 10000000000) := Lib.hid (by omega)
      clear hkE hk1E
      generalize workF a t X x = X2 at *
      have z1 : decide ((k : Int) < (n : Int)) = true := decide_eq_true (by omega)
      have z2 : decide (k < n) = true := decide_eq_true hlt
      have z3 : decide ((k : Int) < 120) = true := decide_eq_true (by omega)
      have z4 : decide (k < 120) = true := decide_eq_true h120
      have j0 : (0 : Int) ≤ (k : Int) := Int.natCast_nonneg _
      have j1 : (k : Int) < (n : Int) := by omega
      clear hxn
      go_wp2_with fail
      refine MW.out.mono ?_
      rintro r w3 ⟨rfl, H3⟩
      clear x0 x1 x2 x3 x4 MW
      go_wp2_with fail
      go_loopw [9] (fun s9 wr => ∃ u : Nat, u ≤ 6 ∧ s9 = .int .i64 u ∧ Hid (Below w3.heap.size w3 wr)) (fun s9 _ => 6 - (intOf s9).toNat)
      case atStart => exact ⟨0, by omega, rfl, Below.refl _ _⟩
      case round =>
        obtain ⟨u, hu, rfl, HJ⟩ := hrel
        by_cases hu6 : u = 6
        · subst hu6
          have H6 := Lib.hid (show FRound w1 _ p h a b t (k + 1) X2 from H3.out.below HJ.out)
          go_wp2_with fail
          go_roundw
          case rel => exact ⟨k + 1, X2, by omega, by omega, by go_num, H6.out, HR.out⟩
          case measure => simp [intOf]; omega
        · have hlt6 : u < 6 := by omega
          have H6 := Lib.hid (H3.out.below HJ.out)
          have q0 := H6.out.at_.farm.h0
          have u1 : decide ((u : Int) ≤ 5) = true := decide_eq_true (by omega)
          have u2 : (u : Int) ≤ 5 := by omega
          have u3 : u ≤ 5 := by omega
          have MQ := Lib.hid (H6.out.queue hlt6)
          obtain ⟨es, hes⟩ : ∃ es, es = entsF X2 u := ⟨_, rfl⟩
          rw [← hes] at MQ
          obtain ⟨el, hel⟩ : ∃ el, el = es.length := ⟨_, rfl⟩
          rw [← hel] at MQ
          have HEL := Lib.hid (And.intro hes hel)
          have HNQ := Lib.hid (HR.out.h.q u _ (H3.out.ok.at_ hlt6))
          clear hes hel
          go_wp2_with fail
          refine MQ.out.mono ?_
          rintro r w4 ⟨A4, c4, rfl, H4⟩
          have H7 := Lib.hid (H6.out.below H4.out.2.2)
          have q1 := H7.out.at_.farm.h0
          have ML := Lib.hid (H7.out.min hlt6)
          obtain ⟨mn, hmn⟩ : ∃ mn, mn = (grOf X2.S u).q.mn := ⟨_, rfl⟩
          rw [← hmn] at ML
          have HMN := Lib.hid hmn
          have hm0 := HNQ.out.q.mn0
          have hm1 := HNQ.out.mn
          rw [← hmn] at hm0 hm1
          have hm2 := HME.out
          clear MQ q0 hmn
          go_wp2_with fail
          refine ML.out.mono ?_
          rintro r w5 ⟨rfl, rfl⟩
          clear ML q1
          go_wp2_with fail
          go_loopw [12] (fun s12 wr => ∃ j : Nat, j ≤ el ∧ s12 = .int .i64 j ∧ Hid (Below w4.heap.size w4 wr)) (fun s12 _ => el - (intOf s12).toNat)
          case atStart => exact ⟨0, by omega, rfl, Below.refl _ _⟩
          case round =>
            obtain ⟨j, hj, rfl, HJ2⟩ := hrel
            by_cases hlj : j < el
            · have hel128 : el ≤ 128 := H4.out.2.1
              have hjm : j < es.length := by rw [← HEL.out.2]; exact hlj
              obtain ⟨b4, o4, rfl, hb4, hc4⟩ := H4.out.1.at_ (by omega)
              obtain ⟨-, -, x2, -⟩ := (hc4 j hjm).below HJ2.out hb4
              have hmem := H7.out.ok.ents_mem hlt6 (j := j) (by rw [← HEL.out.1]; exact hjm)
              rw [← HEL.out.1] at hmem
              have hlow := HNQ.out.q.low _ hmem
              have hhigh := HNQ.out.q.high _ hmem
              rw [← HMN.out] at hlow hhigh
              have H8 := Lib.hid (H7.out.below HJ2.out)
              have c0 := H8.out.at_.farm.c0
              have g0 := H8.out.at_.farm.g0
              obtain ⟨v, hv⟩ : ∃ v, v = (es.getD j En.nil).v := ⟨_, rfl⟩
              rw [← hv] at x2 hlow hhigh
              obtain ⟨lo, hlo⟩ : ∃ lo, lo = mn - (a : Int) := ⟨_, rfl⟩
              obtain ⟨h1, hh1⟩ : ∃ h1, h1 = mn + (b : Int) := ⟨_, rfl⟩
              obtain ⟨h2, hh2⟩ : ∃ h2, h2 = h1 + mo := ⟨_, rfl⟩
              have hmo := HMO.out
              have e1 : IntKind.i64.wrap (mn - (a : Int)) = lo := by rw [IntKind.wrap_i64]; omega
              have e2 : IntKind.i64.wrap (mn + (b : Int)) = h1 := by rw [IntKind.wrap_i64]; omega
              have e3 : IntKind.i64.wrap (h1 + mo) = h2 := by rw [IntKind.wrap_i64]; omega
              have d1 : decide (v < lo) = false := decide_eq_false (by omega)
              have d2 : decide (h2 < v) = false := decide_eq_false (by omega)
              have z5 : decide ((j : Int) < (el : Int)) = true := decide_eq_true (by omega)
              have z6 : decide (j < el) = true := decide_eq_true hlj
              have i0 : (0 : Int) ≤ (j : Int) := Int.natCast_nonneg _
              have i1 : (j : Int) < (el : Int) := by omega
              clear hlo hh1 hh2 hlow hhigh hmo hmem hjm hc4 hm0 hm1 hm2 hv
              go_wp2_with fail
              go_big_quiet (fail)
              go_wp2_with fail
              go_roundw
              case rel => exact ⟨j + 1, hlj, by go_num, below_drewN HJ2.out _⟩
              case measure => simp [intOf]; omega
            · obtain rfl : j = el := by omega
              have z5 : decide ((j : Int) < (j : Int)) = false := decide_eq_false (by omega)
              have HB8 := Lib.hid (HJ.out.trans ((H4.out.2.2.trans (HJ2.out.mono H4.out.2.2.size)).mono HJ.out.size))
              clear hm0 hm1 hm2
              go_wp2_with fail
              go_roundw
              case rel => exact ⟨u + 1, hlt6, by go_num, HB8.out⟩
              case measure => simp [intOf]; omega
    · have hex : (decide ((k : Int) < (n : Int)) = true ∧ decide (k < n) = true ∧ decide ((k : Int) < 120) = false) ∨ (decide ((k : Int) < (n : Int)) = false ∧ decide (k < n) = false) := by
        by_cases hlt : k < n
        · exact .inl ⟨decide_eq_true (by omega), decide_eq_true hlt, decide_eq_false (by omega)⟩
        · exact .inr ⟨decide_eq_false (by omega), decide_eq_false hlt⟩
      have HBEL := Lib.hid (HB1.out.trans (HB.out.1.at_.base.mono HB1.out.size))
      have q0 := HB.out.1.at_.farm.h0
      have MF := Lib.hid (fq_flag HB.out.1.at_ fun i x hx => (HB.out.2.h.q i x hx).q.over)
      clear HU HX HN
      rcases hex with ⟨z1, z2, z3⟩ | ⟨z1, z2⟩
      all_goals
        go_wp2_with (go_at_call 43; refine MF.out.mono ?_; rintro r w5 ⟨rfl, rfl⟩)
        go_ret
        exact ⟨rfl, HBEL.out⟩
set_option maxRecDepth 100000 in
theorem lifted (os : Os) (started : os.Started) (H : Type) (enc : TypeId × Value → H) :
    ReturnsInHanded {} Try.checked os 7 .any (Rows.hierNearSpec.pre6 enc Try.prog Try.f7 Rows.hierNearRow.domain false) (Rows.hierNearSpec.post enc Try.prog Try.f7 false true false false) := by
  refine returnsInHanded_of_change (C := Try.checked) own started (by as_aux_lemma => kernel_rfl) Try.func7
    (ChangeSpec.witness6 (enc := enc) (C := Try.checked) false ⟨#[], #[.agg #[.int .u16 0, .int .u16 0, .int .u16 0], .slice none 0 0], []⟩ 8 (by as_aux_lemma => kernel_rfl) (by as_aux_lemma => kernel_rfl) (by as_aux_lemma => kernel_rfl) (by as_aux_lemma => kernel_rfl)) ?_
  intro W base args ds gs before hval0 hW hcnd _
  have hval : ∀ (j : Nat) t v, Try.f7.params[j]? = some t → args[j]? = some v → Value.okWide Try.prog W .any base t v := hval0
  have hW' := hW
  obtain ⟨p, q, hA0, hV, rfl, hfz, hnd⟩ := hW
  have hA : DataW.TrodAll enc Try.prog W 0 (fun _ => true) true Try.f7.params.toList args.toList ds p := hA0
  rw [Try.params7] at hA hval
  obtain ⟨v0, vs0, d0, ds0, p0, q0, hargs, rfl, rfl, h0, r0⟩ := trodAll_cons hA
  obtain ⟨v1, vs1, d1, ds1, p1, q1, rfl, rfl, rfl, h1, r1⟩ := trodAll_cons r0
  obtain ⟨rfl, rfl, rfl⟩ := trodAll_nil r1
  obtain rfl : args = #[v0, v1] := by cases args; simp_all
  obtain ⟨ac0, ag0, at0, rfl, bc0, bg0, bt0⟩ := open_terms20 (hval 0 60 v0 rfl rfl) h0
  obtain ⟨A1, axs1, acc1, rfl, Ud1, Xd1, Ld1⟩ := open_works20 (hval 1 61 v1 rfl rfl) h1
  refine (walk ac0 ag0 at0 A1 axs1 acc1 bc0 bg0 bt0 W Ud1 Xd1 Ld1).mono fun e W' ⟨he, bel⟩ => ?_
  subst he
  exact ⟨_, rfl, law_post laidOut (by as_aux_lemma => kernel_rfl) rfl Try.underlying4 rfl (fun ds hds => by
    match ds, hds with
    | [x0, x1], _ => rfl) hW' bel⟩

theorem closed : joinedFacts Try.prog 7 Try.f7 Rows.hierNearSpec Rows.hierNearRow = true := by
  unfold joinedFacts
  simp only [Bool.and_eq_true]
  exact ⟨⟨⟨⟨⟨⟨⟨⟨⟨⟨⟨⟨⟨⟨⟨⟨⟨⟨⟨⟨⟨⟨⟨⟨⟨⟨⟨⟨⟨⟨⟨(by as_aux_lemma => kernel_rfl), laidOut⟩, mapsRowedT⟩, (by as_aux_lemma => kernel_rfl)⟩, (by as_aux_lemma => kernel_rfl)⟩, rfl⟩, stopsN⟩, rfl⟩, stopKnobsN⟩, (by as_aux_lemma => kernel_rfl)⟩, (by as_aux_lemma => kernel_rfl)⟩, (by as_aux_lemma => kernel_rfl)⟩, (by as_aux_lemma => kernel_rfl)⟩, (by as_aux_lemma => kernel_rfl)⟩, (by as_aux_lemma => kernel_rfl)⟩, (by as_aux_lemma => kernel_rfl)⟩, (by as_aux_lemma => kernel_rfl)⟩, (by as_aux_lemma => kernel_rfl)⟩, (by as_aux_lemma => kernel_rfl)⟩, (by as_aux_lemma => kernel_rfl)⟩, (by as_aux_lemma => kernel_rfl)⟩, (by as_aux_lemma => kernel_rfl)⟩, plainKeysT⟩, rfl⟩, stopsHeardT⟩, mayEnterT⟩, liftedT⟩, makeT⟩, (by as_aux_lemma => kernel_rfl)⟩, (by as_aux_lemma => kernel_rfl)⟩, (by as_aux_lemma => kernel_rfl)⟩, (by as_aux_lemma => kernel_rfl)⟩

theorem over : Rows.hierNearRow.holds Try.pinned (OpenSpec.ofChange Rows.hierNearSpec) :=
  OpenClaim.holds_of_wide 7 Try.f7 rfl rfl rfl rfl rfl rfl rfl ⟨rfl, rfl, rfl, rfl, rfl⟩ rfl rfl rfl rfl rfl (by as_aux_lemma => kernel_rfl) Try.func7 closed
    (of_decide_eq_true (by as_aux_lemma => kernel_rfl)) (by unfold Func.isWrapper; first | (rw [if_pos (by decide +kernel)]; as_aux_lemma => kernel_rfl) | (rw [if_neg (by decide +kernel)]; exact ⟨rfl, rfl⟩))
    (fun os started H enc _ => lifted os started H enc)

theorem proved : Rows.HierNearSaid := over
#print axioms proved

end hierNear

end Go.Proofs.Ytefekboacghnjaa
