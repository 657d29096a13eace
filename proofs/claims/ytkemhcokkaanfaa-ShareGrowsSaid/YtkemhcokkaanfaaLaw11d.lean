/-
  THE LAWS OF LAYER 11 (share), the third part: growth. For every input it returns true. No conditions.
-/
import Derived.Test.YtkemhcokkaanfaaLaw11b
import Derived.BigQuiet
namespace Go.Proofs.Ytkemhcokkaanfaa
open Go.ChangeShapes Go.WideShapes Go.ChangeAt Go.RowKit

theorem holdN_mono {a b : Nat} (h : a ≤ b) : holdN a ≤ holdN b := by unfold holdN; omega
theorem wgtN_mono {s s' h h' : Nat} (a : Nat) (hs : s ≤ s') (hh : h ≤ h') : wgtN s h a ≤ wgtN s' h' a := by
  unfold wgtN
  split
  · exact Nat.le_refl _
  · have hm := Nat.mul_le_mul hs hh
    by_cases h2 : s' * h' < a * 18446744073709551616
    · have h1 : s * h < a * 18446744073709551616 := by omega
      rw [if_pos (show mdOk s h a = true from decide_eq_true h1), if_pos (show mdOk s' h' a = true from decide_eq_true h2)]
      refine holdN_mono ?_
      unfold mdQ
      rw [if_pos h1, if_pos h2]
      exact Nat.div_le_div_right hm
    · rw [if_neg (show ¬ mdOk s' h' a = true by rw [show mdOk s' h' a = false from decide_eq_false h2]; simp)]
      split
      · exact (holdN_le _).2
      · exact Nat.le_refl _
theorem split_at (s : Nat) (xs : List Nat) (j : Nat) (hj : j < xs.length) : (splitN s xs).getD j 0 = wgtN s (xs.getD j 0) (sat xs.sum) := by
  unfold splitN
  simp [List.getD, List.getElem?_eq_getElem hj]

/-- A slice of words reads at each place. -/
theorem U64s.at_ {w : World} {B : Nat} {A : Option Addr} {xs : List Nat} (h : U64s w B A xs) (hp : 0 < xs.length) : ∃ b off : Nat, A = some ⟨b, off, none⟩ ∧ b < B ∧ ∀ j, j < xs.length → w.cell? ⟨b, off + j, none⟩ = some (.int .u64 ((xs.getD j 0 : Nat) : Int)) := by
  rcases h with h | h
  · rw [h] at hp; simp at hp
  · exact h

namespace shareGrows
set_option maxRecDepth 100000 in
set_option maxHeartbeats 4000000 in
theorem walk (s t : Nat) (A : Option Addr) (xs : List Nat) (c : Nat) (hs : s < 18446744073709551616) (ht : t < 18446744073709551616) (w : World) (hA : U64s w w.heap.size A xs) (hx : Words xs) (hl : xs.length ≤ 9223372036854775807) :
    Calls Try.prog 3 #[.int .u64 s, .int .u64 t, .slice A xs.length c] w fun e w' => e = .returned (.bool true) ∧ Below w.heap.size w w' := by
  by_cases h2 : 200 < xs.length
  · have t1 : decide ((200 : Int) < (xs.length : Int)) = true := decide_eq_true (by omega)
    have t2 : decide (200 < xs.length) = true := decide_eq_true h2
    generalize xs.length = n at *
    go_enter Try.func3, Try.ntmps3
    go_wp2_with fail
    refine (shown11 _).mono ?_
    rintro e w1 ⟨rfl, hb1⟩
    have hz1 := hb1.size
    go_wp2_with fail
    go_ret
    have B1 := hb1
    exact ⟨rfl, B1⟩
  · have t1 : decide ((200 : Int) < (xs.length : Int)) = false := decide_eq_false (by omega)
    have t2 : decide (200 < xs.length) = false := decide_eq_false h2
    obtain ⟨lo, hlo⟩ : ∃ x, x = min s t := ⟨_, rfl⟩
    obtain ⟨hi, hhi⟩ : ∃ x, x = max s t := ⟨_, rfl⟩
    have x1 : min (s : Int) (t : Int) = (lo : Int) := by omega
    have x2 : max (s : Int) (t : Int) = (hi : Int) := by omega
    have blo : lo < 18446744073709551616 := by omega
    have bhi : hi < 18446744073709551616 := by omega
    have hle : lo ≤ hi := by omega
    clear hlo hhi
    have M1 := Lib.hid fun W (h : U64s W W.heap.size A xs) => split_any W A xs c lo h hx (by omega) blo
    have M2 := Lib.hid fun W (h : U64s W W.heap.size A xs) => split_any W A xs c hi h hx (by omega) bhi
    have hl1 := split_len lo xs
    have hl2 := split_len hi xs
    have facts : Hid (∀ j, j < xs.length → (splitN lo xs).getD j 0 ≤ (splitN hi xs).getD j 0 ∧ ∀ i, i < xs.length → (xs.getD i 0 ≤ xs.getD j 0 → (splitN lo xs).getD i 0 ≤ (splitN lo xs).getD j 0)) := fun j hj => by
      refine ⟨?_, fun i hi2 h => ?_⟩
      · rw [split_at _ _ _ hj, split_at _ _ _ hj]; exact wgtN_mono _ hle (Nat.le_refl _)
      · rw [split_at _ _ _ hj, split_at _ _ _ hi2]; exact wgtN_mono _ (Nat.le_refl _) h
    generalize splitN lo xs = ls at *
    generalize splitN hi xs = ms at *
    obtain ⟨n, hn⟩ : ∃ n, n = xs.length := ⟨_, rfl⟩
    rw [← hn] at t1 t2 M1 M2 hl1 hl2
    rw [← hn]
    have HN := Lib.hid hn
    have hn200 : n ≤ 200 := by omega
    clear hn h2 hl
    have t3 : ((n : Int) != (n : Int)) = false := by simp
    go_enter Try.func3, Try.ntmps3
    go_wp2_with fail
    refine (shown11 _).mono ?_
    rintro e w1 ⟨rfl, hb1⟩
    have hz1 := hb1.size
    go_wp2_with fail
    refine (M1.out _ ((hA.keep hb1).more hz1)).mono ?_
    rintro e w2 ⟨v1, rfl, ho1, hb2⟩
    obtain ⟨A1, c1, rfl, hU1⟩ := own_words ho1
    have hz2 := hb2.size
    have B2 := hb1.trans (hb2.mono hz1)
    go_wp2_with fail
    refine (M2.out _ ((hA.keep B2).more (by omega))).mono ?_
    rintro e w3 ⟨v2, rfl, ho2, hb3⟩
    obtain ⟨A2, c2, rfl, hU2⟩ := own_words ho2
    have hz3 := hb3.size
    have B3 := B2.trans (hb3.mono (by omega))
    have V1 := (hU1.keep hb3).more hz3
    have V2' := hU2
    have V0 := (hA.keep B3).more (show w.heap.size ≤ w3.heap.size by omega)
    clear ho1 ho2 hU1 hU2 hb1 hb2 hb3 hz1 hz2 hz3 M1 M2 B2 hA
    have V2 : U64s w3 w3.heap.size A2 ms := V2'
    clear V2'
    go_wp2_with fail
    go_loopw [10] (fun s10 wr => ∃ k : Nat, k ≤ n ∧ s10 = .int .i64 k ∧ Below w3.heap.size w3 wr) (fun s10 _ => n - (intOf s10).toNat)
    case atStart => exact ⟨0, by omega, rfl, Below.refl _ _⟩
    case round =>
      obtain ⟨k, hk, rfl, hBel⟩ := hrel
      by_cases hlt : k < n
      · have z1 : decide ((k : Int) < (n : Int)) = true := decide_eq_true (by omega)
        have z2 : decide (k < n) = true := decide_eq_true hlt
        have hkx : k < xs.length := by rw [← HN.out]; exact hlt
        obtain ⟨b0, o0, rfl, hb0, hc0⟩ := V0.at_ (by omega)
        obtain ⟨b1, o1, rfl, hb1, hc1⟩ := V1.at_ (by omega)
        obtain ⟨b2, o2, rfl, hb2, hc2⟩ := V2.at_ (by omega)
        have k1 := (hBel.cell (p := ⟨b1, o1 + k, none⟩) hb1).trans (hc1 k (by omega))
        have k2 := (hBel.cell (p := ⟨b2, o2 + k, none⟩) hb2).trans (hc2 k (by omega))
        have k0 := (hBel.cell (p := ⟨b0, o0 + k, none⟩) hb0).trans (hc0 k hkx)
        obtain ⟨f1, f2⟩ := facts.out k hkx
        have g1 : decide (ms.getD k 0 < ls.getD k 0) = false := decide_eq_false (by omega)
        have i0 : (0 : Int) ≤ (k : Int) := Int.natCast_nonneg _
        have i1 : (k : Int) < (n : Int) := by omega
        by_cases hkp : 0 < k
        · obtain ⟨i, hki⟩ : ∃ i, k = i + 1 := ⟨k - 1, by omega⟩
          have p0 : decide ((0 : Int) < (k : Int)) = true := decide_eq_true (by omega)
          have p1 : decide (0 < k) = true := decide_eq_true (by omega)
          have wi : IntKind.i64.wrap ((k : Int) - 1) = (i : Int) := by
            rw [IntKind.wrap_i64]; omega
          have j0 : (0 : Int) ≤ (i : Int) := Int.natCast_nonneg _
          have j1 : (i : Int) < (n : Int) := by omega
          have j2 : i < n := by omega
          have m1 := (hBel.cell (p := ⟨b1, o1 + i, none⟩) hb1).trans (hc1 i (by omega))
          have m2 := (hBel.cell (p := ⟨b2, o2 + i, none⟩) hb2).trans (hc2 i (by omega))
          have m0' := (hBel.cell (p := ⟨b0, o0 + i, none⟩) hb0).trans (hc0 i (by omega))
          have f3 := f2 i (by omega)
          have f4 := (facts.out i (by omega)).2 k hkx
          clear hc0 hc1 hc2 V0 V1 V2 f1 f2 facts hl1 hl2 hx
          clear hki
          generalize ms.getD k 0 = mk at *
          generalize ls.getD k 0 = lk at *
          generalize xs.getD k 0 = xk at *
          generalize ms.getD i 0 = mi at *
          generalize ls.getD i 0 = li at *
          generalize xs.getD i 0 = xi at *
          rcases Nat.lt_trichotomy xi xk with hc | hc | hc
          · have c1 : decide (xi < xk) = true := decide_eq_true hc
            have c2 : (xk == xi) = false := by simp; omega
            have c3 : decide (xk < xi) = false := decide_eq_false (by omega)
            have c4 : decide (lk < li) = false := decide_eq_false (by omega)
            have c5 : ((xk : Int) == (xi : Int)) = false := by simp; omega
            clear f3 f4 hc
            go_wp2_with fail
            refine wp_region_quiet_lit (by kernel_rfl) (by kernel_rfl) ?_
            simp only [List.append]
            repeat (go_big_quiet_step (fail))
            refine wpQuiet_nil ?_
            intro _ hw'
            obtain ⟨nq, hw''⟩ := hw'
            subst hw''
            go_wp2_with fail
            go_roundw
            case rel => exact ⟨k + 1, by omega, by go_num, ⟨hBel.os, hBel.tape, hBel.output, hBel.size, hBel.block⟩⟩
            case measure => simp [intOf]; omega
          · subst hc
            have e : lk = li := by omega
            subst e
            have c1 : decide (xi < xi) = false := decide_eq_false (by omega)
            have c2 : (xi == xi) = true := by simp
            have c5 : ((xi : Int) == (xi : Int)) = true := by simp
            have c6 : ((lk : Int) != (lk : Int)) = false := by simp
            clear f3 f4
            go_wp2_with fail
            refine wp_region_quiet_lit (by kernel_rfl) (by kernel_rfl) ?_
            simp only [List.append]
            repeat (go_big_quiet_step (fail))
            refine wpQuiet_nil ?_
            intro _ hw'
            obtain ⟨nq, hw''⟩ := hw'
            subst hw''
            go_wp2_with fail
            go_roundw
            case rel => exact ⟨k + 1, by omega, by go_num, ⟨hBel.os, hBel.tape, hBel.output, hBel.size, hBel.block⟩⟩
            case measure => simp [intOf]; omega
          · have c1 : decide (xi < xk) = false := decide_eq_false (by omega)
            have c2 : (xk == xi) = false := by simp; omega
            have c3 : decide (xk < xi) = true := decide_eq_true (by omega)
            have c4 : decide (li < lk) = false := decide_eq_false (by omega)
            have c5 : ((xk : Int) == (xi : Int)) = false := by simp; omega
            clear f3 f4 hc
            go_wp2_with fail
            refine wp_region_quiet_lit (by kernel_rfl) (by kernel_rfl) ?_
            simp only [List.append]
            repeat (go_big_quiet_step (fail))
            refine wpQuiet_nil ?_
            intro _ hw'
            obtain ⟨nq, hw''⟩ := hw'
            subst hw''
            go_wp2_with fail
            go_roundw
            case rel => exact ⟨k + 1, by omega, by go_num, ⟨hBel.os, hBel.tape, hBel.output, hBel.size, hBel.block⟩⟩
            case measure => simp [intOf]; omega
        · have p0 : decide ((0 : Int) < (k : Int)) = false := decide_eq_false (by omega)
          have p1 : decide (0 < k) = false := decide_eq_false hkp
          clear hc0 hc1 hc2 V0 V1 V2 f1 f2 facts
          generalize ms.getD k 0 = m0 at *
          generalize ls.getD k 0 = l0 at *
          generalize xs.getD k 0 = x0 at *
          clear hl1 hl2 hx
          go_wp2_with fail
          refine wp_region_quiet_lit (by kernel_rfl) (by kernel_rfl) ?_
          simp only [List.append]
          repeat (go_big_quiet_step (fail))
          refine wpQuiet_nil ?_
          intro _ hw'
          obtain ⟨nq, hw''⟩ := hw'
          subst hw''
          go_wp2_with fail
          go_roundw
          case rel => exact ⟨k + 1, by omega, by go_num, ⟨hBel.os, hBel.tape, hBel.output, hBel.size, hBel.block⟩⟩
          case measure => simp [intOf]; omega
      · obtain rfl : k = n := by omega
        have z1 : decide ((k : Int) < (k : Int)) = false := decide_eq_false (by omega)
        go_wp2_with fail
        go_ret
        exact ⟨rfl, B3.trans (hBel.mono (by have := B3.size; omega))⟩

set_option maxRecDepth 100000 in
theorem lifted (os : Os) (started : os.Started) (H : Type) (enc : TypeId × Value → H) :
    ReturnsInHanded {} Try.checked os 3 .any (Rows.shareGrowsSpec.pre6 enc Try.prog Try.f3 Rows.shareGrowsRow.domain false) (Rows.shareGrowsSpec.post enc Try.prog Try.f3 false true false false) := by
  refine returnsInHanded_of_change (C := Try.checked) own started (by as_aux_lemma => kernel_rfl) Try.func3
    (ChangeSpec.witness6 (enc := enc) (C := Try.checked) false ⟨#[], #[.int .u64 0, .int .u64 0, .slice none 0 0], []⟩ 8 (by as_aux_lemma => kernel_rfl) (by as_aux_lemma => kernel_rfl) (by as_aux_lemma => kernel_rfl) (by as_aux_lemma => kernel_rfl)) ?_
  intro W base args ds gs before hval0 hW hcnd _
  have hval : ∀ (j : Nat) t v, Try.f3.params[j]? = some t → args[j]? = some v → Value.okWide Try.prog W .any base t v := hval0
  have hW' := hW
  obtain ⟨p, q, hA0, hV, rfl, hfz, hnd⟩ := hW
  have hA : DataW.TrodAll enc Try.prog W 0 (fun _ => true) true Try.f3.params.toList args.toList ds p := hA0
  rw [Try.params3] at hA hval
  obtain ⟨v0, vs0, d0, ds0, p0, q0, hargs, rfl, rfl, h0, r0⟩ := trodAll_cons hA
  obtain ⟨v1, vs1, d1, ds1, p1, q1, rfl, rfl, rfl, h1, r1⟩ := trodAll_cons r0
  obtain ⟨v2, vs2, d2, ds2, p2, q2, rfl, rfl, rfl, h2, r2⟩ := trodAll_cons r1
  obtain ⟨rfl, rfl, rfl⟩ := trodAll_nil r2
  obtain rfl : args = #[v0, v1, v2] := by cases args; simp_all
  obtain ⟨a0, rfl, b0⟩ := open_u64 Try.underlying22 (hval 0 22 v0 rfl rfl) h0
  obtain ⟨a1, rfl, b1⟩ := open_u64 Try.underlying22 (hval 1 22 v1 rfl rfl) h1
  obtain ⟨A2, xs2, c2, rfl, U2, X2, L2⟩ := open_u64s Try.underlying23 Try.underlying22 (by kernel_rfl) (hval 2 23 v2 rfl rfl) h2
  refine (walk a0 a1 A2 xs2 c2 b0 b1 W U2 X2 L2).mono fun e W' ⟨he, bel⟩ => ?_
  subst he
  exact ⟨_, rfl, law_post laidOut (by as_aux_lemma => kernel_rfl) rfl Try.underlying4 rfl (fun ds hds => by
    match ds, hds with
    | [x0, x1, x2], _ => rfl) hW' bel⟩

theorem closed : joinedFacts Try.prog 3 Try.f3 Rows.shareGrowsSpec Rows.shareGrowsRow = true := by
  unfold joinedFacts
  simp only [Bool.and_eq_true]
  exact ⟨⟨⟨⟨⟨⟨⟨⟨⟨⟨⟨⟨⟨⟨⟨⟨⟨⟨⟨⟨⟨⟨⟨⟨⟨⟨⟨⟨⟨⟨⟨(by as_aux_lemma => kernel_rfl), laidOut⟩, mapsRowedT⟩, (by as_aux_lemma => kernel_rfl)⟩, (by as_aux_lemma => kernel_rfl)⟩, rfl⟩, stopsN⟩, rfl⟩, stopKnobsN⟩, (by as_aux_lemma => kernel_rfl)⟩, (by as_aux_lemma => kernel_rfl)⟩, (by as_aux_lemma => kernel_rfl)⟩, (by as_aux_lemma => kernel_rfl)⟩, (by as_aux_lemma => kernel_rfl)⟩, (by as_aux_lemma => kernel_rfl)⟩, (by as_aux_lemma => kernel_rfl)⟩, (by as_aux_lemma => kernel_rfl)⟩, (by as_aux_lemma => kernel_rfl)⟩, (by as_aux_lemma => kernel_rfl)⟩, (by as_aux_lemma => kernel_rfl)⟩, (by as_aux_lemma => kernel_rfl)⟩, (by as_aux_lemma => kernel_rfl)⟩, plainKeysT⟩, rfl⟩, stopsHeardT⟩, mayEnterT⟩, liftedT⟩, makeT⟩, (by as_aux_lemma => kernel_rfl)⟩, (by as_aux_lemma => kernel_rfl)⟩, (by as_aux_lemma => kernel_rfl)⟩, (by as_aux_lemma => kernel_rfl)⟩

theorem over : Rows.shareGrowsRow.holds Try.pinned (OpenSpec.ofChange Rows.shareGrowsSpec) :=
  OpenClaim.holds_of_wide 3 Try.f3 rfl rfl rfl rfl rfl rfl rfl ⟨rfl, rfl, rfl, rfl, rfl⟩ rfl rfl rfl rfl rfl (by as_aux_lemma => kernel_rfl) Try.func3 closed
    (of_decide_eq_true (by as_aux_lemma => kernel_rfl)) (by unfold Func.isWrapper; first | (rw [if_pos (by decide +kernel)]; as_aux_lemma => kernel_rfl) | (rw [if_neg (by decide +kernel)]; exact ⟨rfl, rfl⟩))
    (fun os started H enc _ => lifted os started H enc)

theorem proved : Rows.ShareGrowsSaid := over
#print axioms proved

end shareGrows

end Go.Proofs.Ytkemhcokkaanfaa
