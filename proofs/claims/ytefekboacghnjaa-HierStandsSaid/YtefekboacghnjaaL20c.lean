/-
  HierStands: whatever the terms and the pieces of work, each queue holds its tasks that are there and its groups that are on, and nobody else; its load is their weights' sum; and a group is on exactly where it is not stopped and its queue holds somebody.
-/
import Derived.Test.YtefekboacghnjaaMs
namespace Go.Proofs.Ytefekboacghnjaa
open Go.ChangeShapes Go.WideShapes Go.ChangeAt Go.RowKit Go.Deep Go.Maps

namespace hierStands
set_option maxRecDepth 100000 in
set_option maxHeartbeats 64000000 in
theorem walk (a b d : Nat) (A : Option Addr) (xs : List FW) (cc : Nat) (ha : a < 65536) (hb : b < 65536) (hd : d < 65536) (w : World) (hU : RowF w w.heap.size A xs) (hX : ∀ x ∈ xs, x.num) (hL : xs.length ≤ 9223372036854775807) :
    Calls Try.prog 8 #[termsV a b d, .slice A xs.length cc] w fun e w' => e = .returned (.bool true) ∧ Below w.heap.size w w' := by
  have HU := Lib.hid hU
  have HX := Lib.hid hX
  clear hU hX
  obtain ⟨n, hn⟩ : ∃ n, n = xs.length := ⟨_, rfl⟩
  rw [← hn] at hL ⊢
  have HN := Lib.hid hn
  clear hn
  have MS := Lib.hid fun W => start_round a b d ha hb hd W
  obtain ⟨W1, hW1⟩ : ∃ W1, W1 = w.alloc (.cells #[.int .u16 (a : Nat), .int .u16 (b : Nat), .int .u16 (d : Nat)] 60) := ⟨_, rfl⟩
  have hb1 : Below w.heap.size w W1 := by rw [hW1]; exact (Below.refl _ _).alloc (Nat.le_refl _) _
  have hn0 : Blk W1 w.heap.size #[.int .u16 (a : Nat), .int .u16 (b : Nat), .int .u16 (d : Nat)] 60 := by rw [hW1]; exact Blk.new _ _ _
  go_enter Try.func8, Try.ntmps8
  go_wp2_with fail
  rw [← hW1]
  refine (awake20 W1).mono ?_
  rintro r w1 ⟨rfl, hb2⟩
  have hn1 := hn0.below hb2 hn0.lt
  have y0 : w1.cell? ⟨w.heap.size, 0, none⟩ = some (.int .u16 (a : Nat)) := Blk.cell hn1 0
  have y1 : w1.cell? ⟨w.heap.size, 1, none⟩ = some (.int .u16 (b : Nat)) := Blk.cell hn1 1
  have y2 : w1.cell? ⟨w.heap.size, 2, none⟩ = some (.int .u16 (d : Nat)) := Blk.cell hn1 2
  have HB1 := Lib.hid (hb1.trans (hb2.mono hb1.size))
  clear hW1 hb1 hb2 hn0 hn1
  go_wp2_with fail
  refine (MS.out _).mono ?_
  rintro r w2 ⟨p, h, rfl, HS⟩
  clear y0 y1 y2 MS
  go_wp2_with fail
  obtain ⟨t, ht⟩ : ∃ t, t = 1 + d := ⟨_, rfl⟩
  rw [← ht] at HS
  have ht2 : t ≤ 65536 := by omega
  clear ht
  go_loopw [7] (fun s7 wr => ∃ (k : Nat) (X : FSt), k ≤ n ∧ k ≤ 100 ∧ s7 = .int .i64 k ∧ Hid (FRound w1 wr p h a b t k X)) (fun s7 _ => n - (intOf s7).toNat)
  case atStart => exact ⟨0, _, by omega, by omega, rfl, HS⟩
  case round =>
    obtain ⟨k, X, hk, hk100, rfl, HB⟩ := hrel
    clear HS
    by_cases hgo : k < n ∧ k < 100
    · obtain ⟨hlt, h100⟩ := hgo
      have hk1 : k < xs.length := by rw [← HN.out]; exact hlt
      obtain ⟨b5, off, rfl, hb5, hcc⟩ := HU.out.at_ (by omega)
      have hBw := HB1.out.trans (HB.out.at_.base.mono HB1.out.size)
      obtain ⟨x0, x1, x2, x3, x4⟩ := (hcc k hk1).below hBw hb5
      have hxn := HX.out (xs.getD k FW.nil) (by rw [getD_fw xs hk1]; exact List.getElem_mem _)
      clear hcc hBw hk1
      generalize xs.getD k FW.nil = x at *
      have MW := Lib.hid (HB.out.work (by omega) (by omega) (by omega) ht2 x hxn)
      generalize workF a t X x = X2 at *
      have z1 : decide ((k : Int) < (n : Int)) = true := decide_eq_true (by omega)
      have z2 : decide (k < n) = true := decide_eq_true hlt
      have z3 : decide ((k : Int) < 100) = true := decide_eq_true (by omega)
      have z4 : decide (k < 100) = true := decide_eq_true h100
      have j0 : (0 : Int) ≤ (k : Int) := Int.natCast_nonneg _
      have j1 : (k : Int) < (n : Int) := by omega
      clear hxn
      go_wp2_with fail
      refine MW.out.mono ?_
      rintro r w3 ⟨rfl, H3⟩
      clear x0 x1 x2 x3 x4 MW
      go_wp2_with fail
      go_loopw [8, 9, 10, 11] (fun s8 s9 s10 s11 wr => ∃ u : Nat, u ≤ 6 ∧ s11 = .int .i64 u ∧ s8 = .int .i64 (manyF X2 u) ∧ s9 = .int .u64 (loadF X2 u : Nat) ∧ s10 = .int .u64 (loadF X2 u : Nat) ∧ Hid (Below w3.heap.size w3 wr)) (fun _ _ _ s11 _ => 6 - (intOf s11).toNat)
      case atStart => exact ⟨0, by omega, rfl, rfl, rfl, rfl, Below.refl _ _⟩
      case round =>
        obtain ⟨u, hu, rfl, rfl, rfl, rfl, HJ⟩ := hrel
        by_cases hu6 : u = 6
        · subst hu6
          have H6 := Lib.hid (H3.out.below HJ.out)
          have hmany := H6.out.ok.many
          have hmb := H6.out.ok.many_le 6 (Nat.le_refl _)
          obtain ⟨m6, hm6⟩ : ∃ m6, m6 = manyF X2 6 := ⟨_, rfl⟩
          rw [← hm6] at hmany hmb
          rw [← hm6]
          generalize loadF X2 6 = l6 at *
          have HMY := Lib.hid hmany
          clear hmany hm6
          go_wp2_with fail
          go_loopw [8, 14] (fun s8 s14 wr => ∃ i : Nat, i ≤ 8 ∧ s14 = .int .i64 i ∧ s8 = .int .i64 (m6 - hereF X2 i) ∧ Hid (Below w3.heap.size w3 wr)) (fun _ s14 _ => 8 - (intOf s14).toNat)
          case atStart => exact ⟨0, by omega, rfl, by show _ = Value.int .i64 (m6 - 0); rw [Int.sub_zero], HJ⟩
          case round =>
            obtain ⟨i, hi, rfl, rfl, HJ3⟩ := hrel
            by_cases hi8 : i = 8
            · subst hi8
              have hz : m6 - hereF X2 8 = 0 := by rw [HMY.out]; exact Int.sub_self _
              rw [hz]
              have HD := Lib.hid (show FRound w1 _ p h a b t (k + 1) X2 from H3.out.below HJ3.out)
              go_wp2_with fail
              go_roundw
              case rel => exact ⟨k + 1, X2, by omega, by omega, by go_num, HD⟩
              case measure => simp [intOf]; omega
            · have hilt : i < 8 := by omega
              have h7 := (H3.out.below HJ3.out).at_.farm.here i hilt
              have hhb := here_le X2 i
              have hn1 : hereF X2 (i + 1) = hereF X2 i + (((X2.here i).toNat : Nat) : Int) := rfl
              obtain ⟨hh, hhh⟩ : ∃ hh, hh = X2.here i := ⟨_, rfl⟩
              rw [← hhh] at h7 hn1
              obtain ⟨mi, hmi⟩ : ∃ mi, mi = m6 - hereF X2 i := ⟨_, rfl⟩
              obtain ⟨mj, hmj⟩ : ∃ mj, mj = m6 - hereF X2 (i + 1) := ⟨_, rfl⟩
              rw [← hmi]
              have HMJ := Lib.hid hmj
              have i0 : (0 : Int) ≤ (i : Int) := Int.natCast_nonneg _
              have i1 : (i : Int) < 8 := by omega
              have i3 : decide (i < 8) = true := decide_eq_true hilt
              have i4 : decide ((i : Int) < 8) = true := decide_eq_true i1
              cases hh with
              | false =>
                have hmm : mi = mj := by
                  rw [hmi, hmj, hn1]
                  show _ = m6 - (_ + 0)
                  omega
                subst hmm
                clear hmi hmj hhb hn1 hhh
                go_wp2_with fail
                go_roundw
                case rel => exact ⟨i + 1, hilt, by go_num, by rw [HMJ.out], HJ3⟩
                case measure => simp [intOf]; omega
              | true =>
                have hmm : mj = mi - 1 := by
                  rw [hmi, hmj, hn1]
                  show m6 - (_ + 1) = _
                  omega
                have e5 : IntKind.i64.wrap (mi - 1) = mj := by rw [IntKind.wrap_i64]; omega
                clear hmi hmj hhb hn1 hhh hmm
                go_wp2_with fail
                go_roundw
                case rel => exact ⟨i + 1, hilt, by go_num, by rw [HMJ.out], HJ3⟩
                case measure => simp [intOf]; omega
        · have hlt6 : u < 6 := by omega
          have H6 := Lib.hid (H3.out.below HJ.out)
          have q0 := H6.out.at_.farm.h0
          have u1 : decide ((u : Int) ≤ 5) = true := decide_eq_true (by omega)
          have u2 : (u : Int) ≤ 5 := by omega
          have u3 : u ≤ 5 := by omega
          have MQ := Lib.hid (H6.out.queue hlt6)
          obtain ⟨es, hes⟩ : ∃ es, es = entsF X2 u := ⟨_, rfl⟩
          rw [← hes] at MQ
          obtain ⟨mu, hmu⟩ : ∃ mu, mu = manyF X2 u := ⟨_, rfl⟩
          obtain ⟨lu, hlu⟩ : ∃ lu, lu = loadF X2 u := ⟨_, rfl⟩
          rw [← hmu, ← hlu]
          obtain ⟨el, hel⟩ : ∃ el, el = es.length := ⟨_, rfl⟩
          rw [← hel] at MQ
          have HEL := Lib.hid (And.intro hes (And.intro hmu (And.intro hlu hel)))
          clear hes hmu hlu hel
          go_wp2_with fail
          refine MQ.out.mono ?_
          rintro r w4 ⟨A4, c4, rfl, H4⟩
          have H7 := Lib.hid (H6.out.below H4.out.2.2)
          have q1 := H7.out.at_.farm.h0
          have ML := Lib.hid (H7.out.load hlt6)
          have hm := H7.out.ok.many_le u hu
          have hl := H7.out.ok.load_le u hu
          have hll := (H7.out.ok.good.inv.qok u _ (H7.out.ok.at_ hlt6)).load
          have hel2 := H4.out.2.1
          rw [← HEL.out.2.1] at hm
          rw [← HEL.out.2.2.1] at hl
          obtain ⟨lw, hlw⟩ : ∃ lw, lw = loadL (grOf X2.S u).q.L := ⟨_, rfl⟩
          rw [← hlw] at ML hll
          have HLW := Lib.hid hlw
          obtain ⟨m2, hm2⟩ : ∃ m2, m2 = mu + (el : Int) := ⟨_, rfl⟩
          have e1 : IntKind.i64.wrap (mu + (el : Int)) = m2 := by rw [IntKind.wrap_i64]; omega
          obtain ⟨l2, hl2⟩ : ∃ l2, l2 = lu + lw := ⟨_, rfl⟩
          have e2 : IntKind.u64.wrap ((lu : Int) + (lw : Int)) = (l2 : Int) := by rw [IntKind.wrap_u64]; omega
          have HM2 := Lib.hid (And.intro hm2 hl2)
          clear MQ q0 hlw hm2 hl2
          go_wp2_with fail
          refine ML.out.mono ?_
          rintro r w5 ⟨rfl, rfl⟩
          clear ML q1 e1
          go_wp2_with fail
          clear e2
          go_loopw [10, 13] (fun s10 s13 wr => ∃ j : Nat, j ≤ el ∧ s13 = .int .i64 j ∧ s10 = .int .u64 ((lu + loadL (es.take j) : Nat) : Int) ∧ Hid (Below w4.heap.size w4 wr)) (fun _ s13 _ => el - (intOf s13).toNat)
          case atStart => exact ⟨0, by omega, rfl, rfl, Below.refl _ _⟩
          case round =>
            obtain ⟨j, hj, rfl, rfl, HJ2⟩ := hrel
            by_cases hlj : j < el
            · have hjm : j < es.length := by rw [← HEL.out.2.2.2]; exact hlj
              obtain ⟨b4, o4, rfl, hb4, hc4⟩ := H4.out.1.at_ (by omega)
              obtain ⟨-, x1, -, -⟩ := (hc4 j hjm).below HJ2.out hb4
              have ht3 := load_take es hjm
              have ht4 := load_take_le es (j + 1)
              have ht5 := H7.out.ok.ents_load hlt6
              rw [← HEL.out.1, ← HLW.out] at ht5
              obtain ⟨s0, hs0⟩ : ∃ s0, s0 = lu + loadL (es.take j) := ⟨_, rfl⟩
              obtain ⟨s1, hs1⟩ : ∃ s1, s1 = lu + loadL (es.take (j + 1)) := ⟨_, rfl⟩
              obtain ⟨wt, hwt⟩ : ∃ wt, wt = (es.getD j En.nil).wt := ⟨_, rfl⟩
              rw [← hwt] at x1 ht3
              rw [← hs0]
              have e3 : IntKind.u64.wrap ((s0 : Int) + (wt : Int)) = (s1 : Int) := by rw [IntKind.wrap_u64]; omega
              have HS1 := Lib.hid hs1
              have z5 : decide ((j : Int) < (el : Int)) = true := decide_eq_true (by omega)
              have z6 : decide (j < el) = true := decide_eq_true hlj
              have i0 : (0 : Int) ≤ (j : Int) := Int.natCast_nonneg _
              have i1 : (j : Int) < (el : Int) := by omega
              clear hs0 hs1 hwt hc4 hjm ht3 ht4 ht5
              go_wp2_with fail
              go_roundw
              case rel => exact ⟨j + 1, hlj, by go_num, by rw [← HS1.out], HJ2.out⟩
              case measure => simp [intOf]; omega
            · obtain rfl : j = el := by omega
              have hfull : lu + loadL (es.take j) = l2 := by
                have h1 := H7.out.ok.ents_load hlt6
                rw [← HEL.out.1, ← HLW.out] at h1
                rw [HEL.out.2.2.2, List.take_length, h1]
                exact HM2.out.2.symm
              rw [hfull]
              have H8 := Lib.hid (H7.out.below HJ2.out)
              have HB8 := Lib.hid (HJ.out.trans ((H4.out.2.2.trans (HJ2.out.mono H4.out.2.2.size)).mono HJ.out.size))
              have z5 : decide ((j : Int) < (j : Int)) = false := decide_eq_false (by omega)
              have q8 := H8.out.at_.farm.h0
              have hl3 : l2 = loadF X2 (u + 1) := by
                rw [HM2.out.2, HEL.out.2.2.1, HLW.out]
                rfl
              have HL3 := Lib.hid hl3
              clear hfull hl3 hl hll hel2
              by_cases h0 : u = 0
              · have u4 : decide ((0 : Int) < (u : Int)) = false := decide_eq_false (by omega)
                have u5 : decide (0 < u) = false := decide_eq_false (by omega)
                have hm3 : m2 = manyF X2 (u + 1) := by
                  rw [HM2.out.1, HEL.out.2.1, HEL.out.2.2.2, HEL.out.1, H7.out.ok.ents_len hlt6]
                  show _ = manyF X2 u + _ - (if u = 0 then 0 else _)
                  rw [if_pos h0]
                  omega
                have HM3 := Lib.hid hm3
                clear hm3 h0 hm
                go_wp2_with fail
                go_roundw
                case rel => exact ⟨u + 1, hlt6, by go_num, by rw [HM3.out], by rw [HL3.out], by rw [HL3.out], HB8.out⟩
                case measure => simp [intOf]; omega
              · have u4 : decide ((0 : Int) < (u : Int)) = true := decide_eq_true (by omega)
                have u5 : decide (0 < u) = true := decide_eq_true (by omega)
                have MO := Lib.hid (H8.out.on hlt6 h0)
                have MS2 := Lib.hid (H8.out.stopped hlt6 h0)
                have hon : oN X2 u = (grOf X2.S u).on.toNat := rfl
                have hst := H8.out.ok.stands hlt6 h0
                rw [← HEL.out.1, ← HEL.out.2.2.2] at hst
                obtain ⟨on, hon2⟩ : ∃ on, on = (grOf X2.S u).on := ⟨_, rfl⟩
                obtain ⟨st, hst2⟩ : ∃ st, st = (grOf X2.S u).stopped := ⟨_, rfl⟩
                rw [← hon2] at MO hon hst
                rw [← hst2] at MS2 hst
                have hm3 : manyF X2 (u + 1) = m2 - ((on.toNat : Nat) : Int) := by
                  rw [HM2.out.1, HEL.out.2.1, HEL.out.2.2.2, HEL.out.1, H7.out.ok.ents_len hlt6]
                  show manyF X2 u + _ - (if u = 0 then 0 else _) = _
                  rw [if_neg h0, hon]
                have HM3 := Lib.hid hm3
                have hm4 := HM2.out.1
                have hj128 : j ≤ 128 := H4.out.2.1
                rcases hst with ⟨k1, k2⟩ | ⟨k1, k2, k3⟩ | ⟨k1, k2, k3⟩
                · subst k2
                  have v1 : decide ((0 : Int) < (j : Int)) = false := decide_eq_false (by omega)
                  have v2 : decide (0 < j) = false := decide_eq_false (by omega)
                  clear hon hon2 hst2 hm3 h0 MS2 k1 hm hm4 hj128
                  go_wp2_with (go_at_call 45; refine MO.out.mono ?_; rintro r w9 ⟨rfl, rfl⟩)
                  go_roundw
                  case rel => exact ⟨u + 1, hlt6, by go_num, by rw [HM3.out]; simp, by rw [HL3.out], by rw [HL3.out], HB8.out⟩
                  case measure => simp [intOf]; omega
                · subst k2
                  subst k3
                  have v1 : decide ((0 : Int) < (j : Int)) = true := decide_eq_true (by omega)
                  have v2 : decide (0 < j) = true := decide_eq_true k1
                  clear hon hon2 hst2 hm3 h0 k1 hm hm4 hj128
                  go_wp2_with (first | (go_at_call 45; refine MO.out.mono ?_; rintro r w9 ⟨rfl, rfl⟩) | (go_at_call 46; refine MS2.out.mono ?_; rintro r w9 ⟨rfl, rfl⟩))
                  go_roundw
                  case rel => exact ⟨u + 1, hlt6, by go_num, by rw [HM3.out]; simp, by rw [HL3.out], by rw [HL3.out], HB8.out⟩
                  case measure => simp [intOf]; omega
                · subst k2
                  subst k3
                  have v1 : decide ((0 : Int) < (j : Int)) = true := decide_eq_true (by omega)
                  have v2 : decide (0 < j) = true := decide_eq_true k1
                  obtain ⟨m3, hm5⟩ : ∃ m3, m3 = m2 - 1 := ⟨_, rfl⟩
                  have e4 : IntKind.i64.wrap (m2 - 1) = m3 := by rw [IntKind.wrap_i64]; omega
                  have HM5 := Lib.hid hm5
                  clear hon hon2 hst2 hm3 h0 k1 hm hm4 hj128 hm5
                  go_wp2_with (first | (go_at_call 45; refine MO.out.mono ?_; rintro r w9 ⟨rfl, rfl⟩) | (go_at_call 46; refine MS2.out.mono ?_; rintro r w9 ⟨rfl, rfl⟩))
                  go_roundw
                  case rel => exact ⟨u + 1, hlt6, by go_num, by rw [HM3.out, HM5.out]; rfl, by rw [HL3.out], by rw [HL3.out], HB8.out⟩
                  case measure => simp [intOf]; omega
    · have hex : (decide ((k : Int) < (n : Int)) = true ∧ decide (k < n) = true ∧ decide ((k : Int) < 100) = false) ∨ (decide ((k : Int) < (n : Int)) = false ∧ decide (k < n) = false) := by
        by_cases hlt : k < n
        · exact .inl ⟨decide_eq_true (by omega), decide_eq_true hlt, decide_eq_false (by omega)⟩
        · exact .inr ⟨decide_eq_false (by omega), decide_eq_false hlt⟩
      have HBEL := Lib.hid (HB1.out.trans (HB.out.at_.base.mono HB1.out.size))
      clear HU HX HN
      rcases hex with ⟨z1, z2, z3⟩ | ⟨z1, z2⟩
      all_goals
        go_wp2_with fail
        go_ret
        exact ⟨rfl, HBEL.out⟩
set_option maxRecDepth 100000 in
theorem lifted (os : Os) (started : os.Started) (H : Type) (enc : TypeId × Value → H) :
    ReturnsInHanded {} Try.checked os 8 .any (Rows.hierStandsSpec.pre6 enc Try.prog Try.f8 Rows.hierStandsRow.domain false) (Rows.hierStandsSpec.post enc Try.prog Try.f8 false true false false) := by
  refine returnsInHanded_of_change (C := Try.checked) own started (by as_aux_lemma => kernel_rfl) Try.func8
    (ChangeSpec.witness6 (enc := enc) (C := Try.checked) false ⟨#[], #[.agg #[.int .u16 0, .int .u16 0, .int .u16 0], .slice none 0 0], []⟩ 8 (by as_aux_lemma => kernel_rfl) (by as_aux_lemma => kernel_rfl) (by as_aux_lemma => kernel_rfl) (by as_aux_lemma => kernel_rfl)) ?_
  intro W base args ds gs before hval0 hW hcnd _
  have hval : ∀ (j : Nat) t v, Try.f8.params[j]? = some t → args[j]? = some v → Value.okWide Try.prog W .any base t v := hval0
  have hW' := hW
  obtain ⟨p, q, hA0, hV, rfl, hfz, hnd⟩ := hW
  have hA : DataW.TrodAll enc Try.prog W 0 (fun _ => true) true Try.f8.params.toList args.toList ds p := hA0
  rw [Try.params8] at hA hval
  obtain ⟨v0, vs0, d0, ds0, p0, q0, hargs, rfl, rfl, h0, r0⟩ := trodAll_cons hA
  obtain ⟨v1, vs1, d1, ds1, p1, q1, rfl, rfl, rfl, h1, r1⟩ := trodAll_cons r0
  obtain ⟨rfl, rfl, rfl⟩ := trodAll_nil r1
  obtain rfl : args = #[v0, v1] := by cases args; simp_all
  obtain ⟨ac0, ag0, at0, rfl, bc0, bg0, bt0⟩ := open_terms20 (hval 0 60 v0 rfl rfl) h0
  obtain ⟨A1, axs1, acc1, rfl, Ud1, Xd1, Ld1⟩ := open_works20 (hval 1 61 v1 rfl rfl) h1
  refine (walk ac0 ag0 at0 A1 axs1 acc1 bc0 bg0 bt0 W Ud1 Xd1 Ld1).mono fun e W' ⟨he, bel⟩ => ?_
  subst he
  exact ⟨_, rfl, law_post laidOut (by as_aux_lemma => kernel_rfl) rfl Try.underlying4 rfl (fun ds hds => by
    match ds, hds with
    | [x0, x1], _ => rfl) hW' bel⟩

theorem closed : joinedFacts Try.prog 8 Try.f8 Rows.hierStandsSpec Rows.hierStandsRow = true := by
  unfold joinedFacts
  simp only [Bool.and_eq_true]
  exact ⟨⟨⟨⟨⟨⟨⟨⟨⟨⟨⟨⟨⟨⟨⟨⟨⟨⟨⟨⟨⟨⟨⟨⟨⟨⟨⟨⟨⟨⟨⟨(by as_aux_lemma => kernel_rfl), laidOut⟩, mapsRowedT⟩, (by as_aux_lemma => kernel_rfl)⟩, (by as_aux_lemma => kernel_rfl)⟩, rfl⟩, stopsN⟩, rfl⟩, stopKnobsN⟩, (by as_aux_lemma => kernel_rfl)⟩, (by as_aux_lemma => kernel_rfl)⟩, (by as_aux_lemma => kernel_rfl)⟩, (by as_aux_lemma => kernel_rfl)⟩, (by as_aux_lemma => kernel_rfl)⟩, (by as_aux_lemma => kernel_rfl)⟩, (by as_aux_lemma => kernel_rfl)⟩, (by as_aux_lemma => kernel_rfl)⟩, (by as_aux_lemma => kernel_rfl)⟩, (by as_aux_lemma => kernel_rfl)⟩, (by as_aux_lemma => kernel_rfl)⟩, (by as_aux_lemma => kernel_rfl)⟩, (by as_aux_lemma => kernel_rfl)⟩, plainKeysT⟩, rfl⟩, stopsHeardT⟩, mayEnterT⟩, liftedT⟩, makeT⟩, (by as_aux_lemma => kernel_rfl)⟩, (by as_aux_lemma => kernel_rfl)⟩, (by as_aux_lemma => kernel_rfl)⟩, (by as_aux_lemma => kernel_rfl)⟩

theorem over : Rows.hierStandsRow.holds Try.pinned (OpenSpec.ofChange Rows.hierStandsSpec) :=
  OpenClaim.holds_of_wide 8 Try.f8 rfl rfl rfl rfl rfl rfl rfl ⟨rfl, rfl, rfl, rfl, rfl⟩ rfl rfl rfl rfl rfl (by as_aux_lemma => kernel_rfl) Try.func8 closed
    (of_decide_eq_true (by as_aux_lemma => kernel_rfl)) (by unfold Func.isWrapper; first | (rw [if_pos (by decide +kernel)]; as_aux_lemma => kernel_rfl) | (rw [if_neg (by decide +kernel)]; exact ⟨rfl, rfl⟩))
    (fun os started H enc _ => lifted os started H enc)

theorem proved : Rows.HierStandsSaid := over
#print axioms proved

end hierStands

end Go.Proofs.Ytefekboacghnjaa
