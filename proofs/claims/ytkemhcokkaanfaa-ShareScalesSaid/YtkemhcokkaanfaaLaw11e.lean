/-
  ShareSums.
-/
import Derived.Test.YtkemhcokkaanfaaLaw11b
import Derived.Test.YtkemhcokkaanfaaOpen2
namespace Go.Proofs.Ytkemhcokkaanfaa
open Go.ChangeShapes Go.WideShapes Go.ChangeAt Go.RowKit

namespace shareSums
/-- what is told of the first k, of shares q in a whole of S -/
theorem one (q x S : Nat) (hS : 0 < S) (hx : x ≤ S) (hq : q < 262144) (h1 : 2 < wgtN q x S) (h2 : wgtN q x S < 262144) : wgtN q x S = q * x / S := by
  have hok : q * x < S * 18446744073709551616 := by
    have : q * x ≤ 262144 * S := Nat.mul_le_mul (by omega) hx
    omega
  have e1 : mdOk q x S = true := decide_eq_true hok
  have e2 : mdQ q x S = q * x / S := if_pos hok
  unfold wgtN at h1 h2 ⊢
  rw [if_neg (by omega), if_pos e1, e2] at h1 h2 ⊢
  unfold holdN at h1 h2 ⊢
  omega
theorem mem_le : ∀ (xs : List Nat) (x : Nat), x ∈ xs → x ≤ xs.sum
  | y :: xs, x, h => by
    rcases List.mem_cons.1 h with rfl | h
    · simp
    · have := mem_le xs x h; simp; omega
theorem parts (q S : Nat) (hS : 0 < S) (hq : q < 262144) : ∀ xs : List Nat, (∀ x ∈ xs, x ≤ S) → (∀ x ∈ xs, 2 < wgtN q x S ∧ wgtN q x S < 262144) →
    (xs.map fun x => wgtN q x S).sum * S ≤ q * xs.sum ∧ q * xs.sum + xs.length ≤ ((xs.map fun x => wgtN q x S).sum + xs.length) * S
  | [], _, _ => by simp
  | x :: xs, h, h2 => by
    obtain ⟨i1, i2⟩ := parts q S hS hq xs (fun y hy => h y (by simp [hy])) (fun y hy => h2 y (by simp [hy]))
    have e := one q x S hS (h x (by simp)) hq (h2 x (by simp)).1 (h2 x (by simp)).2
    have hd := Nat.div_add_mod (q * x) S
    have hm := Nat.mod_lt (q * x) hS
    simp only [List.map_cons, List.sum_cons, List.length_cons]
    rw [e]
    generalize (xs.map fun x => wgtN q x S).sum = T at *
    generalize q * x / S = d at *
    generalize q * x % S = r at *
    have a1 : q * (x + xs.sum) = S * d + r + q * xs.sum := by rw [Nat.mul_add, hd]
    have a2 : (d + T) * S = S * d + T * S := by rw [Nat.add_mul, Nat.mul_comm d S]
    have a3 : (d + T + (xs.length + 1)) * S = S * d + S + (T + xs.length) * S := by
      rw [show d + T + (xs.length + 1) = d + 1 + (T + xs.length) by omega, Nat.add_mul, Nat.add_mul, Nat.mul_comm d S, Nat.one_mul]
    rw [a1, a2, a3]
    constructor <;> omega
theorem law (q : Nat) (xs : List Nat) (hq : q < 262144) (hn : 0 < xs.length) (hS : xs.sum < 18446744073709551616) (h : ∀ m ∈ splitN q xs, 2 < m ∧ m < 262144) :
    0 < xs.sum ∧ (splitN q xs).sum ≤ q ∧ q < (splitN q xs).sum + xs.length := by
  have es : sat xs.sum = xs.sum := Nat.min_eq_left (by omega)
  unfold splitN at h ⊢
  rw [es] at h ⊢
  have hpos : 0 < xs.sum := by
    rcases Nat.eq_zero_or_pos xs.sum with h0 | h0
    · have hm : xs[0] ∈ xs := List.getElem_mem hn
      have := (h (wgtN q xs[0] xs.sum) (List.mem_map.2 ⟨_, hm, rfl⟩)).1
      rw [h0] at this
      have : wgtN q xs[0] 0 = 2 := if_pos rfl
      omega
    · exact h0
  obtain ⟨p1, p2⟩ := parts q xs.sum hpos hq xs (fun x hx => mem_le xs x hx) (fun x hx => h _ (List.mem_map.2 ⟨x, hx, rfl⟩))
  refine ⟨hpos, Nat.le_of_mul_le_mul_right p1 hpos, ?_⟩
  have : q * xs.sum < ((xs.map fun x => wgtN q x xs.sum).sum + xs.length) * xs.sum := by omega
  exact Nat.lt_of_mul_lt_mul_right this

theorem take_ext (xs : List Nat) (k : Nat) (hk : k < xs.length) : xs.take (k + 1) = xs.take k ++ [xs.getD k 0] := by
  rw [List.take_succ_eq_append_getElem hk]
  simp [List.getD, List.getElem?_eq_getElem hk]
theorem sum_bound (B : Nat) : ∀ xs : List Nat, (∀ j, j < xs.length → xs.getD j 0 < B) → xs.sum ≤ xs.length * B
  | [], _ => by simp
  | x :: xs, h => by
    have h1 := h 0 (by simp)
    have h2 := sum_bound B xs (fun j hj => by have := h (j + 1) (by simp; omega); simpa using this)
    have h3 : x < B := by simpa using h1
    simp only [List.sum_cons, List.length_cons, Nat.add_mul]
    omega

set_option maxRecDepth 100000 in
set_option maxHeartbeats 4000000 in
theorem walk (s : Nat) (A : Option Addr) (xs : List Nat) (c : Nat) (hs : s < 4294967296) (w : World) (hA : NumsAt .u32 w w.heap.size A xs) (hX : ∀ j, j < xs.length → xs.getD j 0 < 4294967296) (hL : xs.length ≤ 9223372036854775807) :
    Calls Try.prog 4 #[.int .u32 s, .slice A xs.length c] w fun e w' => e = .returned (.bool true) ∧ Below w.heap.size w w' := by
  obtain ⟨i0, hi, iz0, iz1, iz2⟩ := info_parts infoW
  by_cases hn0 : xs.length = 0
  · have t1 : ((xs.length : Int) == 0) = true := by simp [hn0]
    have t2 : (xs.length == 0) = true := by simp [hn0]
    clear hA hX
    generalize xs.length = n at *
    clear hn0
    go_enter Try.func4, Try.ntmps4
    go_wp2_with fail
    refine (shown11 _).mono ?_
    rintro e w1 ⟨rfl, hb1⟩
    go_wp2_with fail
    all_goals first
      | (exact absurd (show some undef = some (Value.bool _) by assumption) (by simp [undef]))
      | (go_ret; exact ⟨rfl, hb1⟩)
  · have t1 : ((xs.length : Int) == 0) = false := by rw [beq_eq_false_iff_ne]; omega
    have t2 : (xs.length == 0) = false := by rw [beq_eq_false_iff_ne]; omega
    by_cases hn64 : 64 < xs.length
    · have t3 : decide ((64 : Int) < (xs.length : Int)) = true := decide_eq_true (by omega)
      have t4 : decide (64 < xs.length) = true := decide_eq_true hn64
      clear hA hX
      generalize xs.length = n at *
      go_enter Try.func4, Try.ntmps4
      go_wp2_with fail
      refine (shown11 _).mono ?_
      rintro e w1 ⟨rfl, hb1⟩
      go_wp2_with fail
      go_ret
      exact ⟨rfl, hb1⟩
    · have t3 : decide ((64 : Int) < (xs.length : Int)) = false := decide_eq_false (by omega)
      have t4 : decide (64 < xs.length) = false := decide_eq_false hn64
      have hsb := sum_bound 4294967296 xs hX
      have hXw : Words xs := fun j hj => by have := hX j hj; omega
      obtain ⟨q, hq⟩ : ∃ q, q = s % 262144 := ⟨_, rfl⟩
      have eq1 : (s : Int) % 262144 = (q : Int) := by omega
      have hq2 : q < 262144 := by omega
      have ew : IntKind.u64.wrap (s : Int) = (s : Int) := by rw [IntKind.wrap_u64]; omega
      have M2 := Lib.hid fun W A2 c2 (h : U64s W W.heap.size A2 xs) => split_any W A2 xs c2 q h hXw (by omega) (by omega)
      have HLAW := Lib.hid (law q xs hq2 (by omega) (by omega))
      have HSW := Lib.hid (split_words q xs)
      have HSL : Hid ((splitN q xs).length = xs.length) := Lib.hid (split_len q xs)
      have HSB : Hid (∀ j, j < (splitN q xs).length → (splitN q xs).getD j 0 ≤ 262144) := Lib.hid fun j hj => by
        have h2 : j < xs.length := by rw [← split_len q xs]; exact hj
        have := (wgtN_le q (xs[j]) (sat xs.sum)).2
        unfold splitN
        simp [List.getD, List.getElem?_eq_getElem h2]
        omega
      have HX := Lib.hid hX
      have HA := Lib.hid hA
      have HTA := Lib.hid fun k (hk : k < xs.length) => And.intro (take_ext xs k hk) (And.intro (sum_take xs k hk) (And.intro (sum_take_le xs (k + 1)) (hX k hk)))
      obtain ⟨n, hn⟩ : ∃ n, n = xs.length := ⟨_, rfl⟩
      rw [← hn] at hn0 hn64 t1 t2 t3 t4 hL hsb M2 ⊢
      have HN := Lib.hid hn
      have HSS := Lib.hid hsb
      clear hn hX hXw hA hq hsb
      go_enter Try.func4, Try.ntmps4
      go_wp2_with fail
      refine (shown11 _).mono ?_
      rintro e w1 ⟨rfl, hb1⟩
      have HB1 := Lib.hid hb1
      clear hb1
      go_wp2_with fail
      go_loopw [6, 7, 8] (fun v s7 s8 wr => ∃ (k T : Nat), k ≤ n ∧ s8 = .int .i64 k ∧ s7 = .int .u64 T ∧ Hid (T = (xs.take k).sum) ∧ wr.ownsRow w1.heap.size 22 1 v k ((xs.take k).map wv) ∧ Below w1.heap.size w1 wr) (fun _ _ s8 _ => n - (intOf s8).toNat)
      case atStart => exact ⟨0, 0, by omega, rfl, rfl, rfl, World.ownsRow_nil _ _ _ _, Below.refl _ _⟩
      case round =>
        obtain ⟨k, T, hk, rfl, rfl, HT, hown, hB⟩ := hrel
        have hw1 := HB1.out.size
        have hzr := hB.size
        by_cases hlt : k < n
        · have hkx : k < xs.length := by rw [← HN.out]; exact hlt
          obtain ⟨b, off, rfl, hbB, hc⟩ := HA.out.at_ (by omega)
          have hcell := ((HB1.out.trans (hB.mono hw1)).cell (p := ⟨b, off + k, none⟩) hbB).trans (hc k hkx)
          obtain ⟨p1, p2, p3, p4⟩ := HTA.out k hkx
          rw [← HT.out] at p2
          have HP := Lib.hid p1
          have hss := HSS.out
          have z1 : decide ((k : Int) < (n : Int)) = true := decide_eq_true (by omega)
          have z2 : decide (k < n) = true := decide_eq_true hlt
          have j0 : (0 : Int) ≤ (k : Int) := Int.natCast_nonneg _
          have j1 : (k : Int) < (n : Int) := by omega
          clear hc p1 hkx
          generalize xs.getD k 0 = x at *
          obtain ⟨T2, hT2⟩ : ∃ T2, T2 = T + x := ⟨_, rfl⟩
          have e5 : IntKind.u64.wrap ((T : Int) + (x : Int)) = (T2 : Int) := by rw [IntKind.wrap_u64]; omega
          have e6 : IntKind.u64.wrap (x : Int) = (x : Int) := by rw [IntKind.wrap_u64]; omega
          have HT2 : Hid (T2 = (xs.take (k + 1)).sum) := Lib.hid (by omega)
          have HB := Lib.hid hB
          have hc2 := (Below.refl wr.heap.size wr)
          clear hT2 p2 p3 hss hB HT
          go_wp2_with (at_builtin; refine wpList_append_own _ rfl _ _ 23 rfl w1.heap.size 22 i0 (.int .u64 0) 1 8 Try.underlying23 hi iz0 iz1 iz2 rfl (by decide) _ _ _ rfl (hown.alloc _) ⟨wr.heap.size, 0, none⟩ 1 1 [.int .u64 x] rfl rfl (cell_one_new _ _ _) (by simp [Value.oneCell']) (by unfold maxLen; omega) (by omega) (by simp; omega) ?_; intro v' w2 hown2 hgrow _; have hBa : Below w1.heap.size w1 w2 := (HB.out.alloc hzr _).grown hgrow (by simp; omega) (fun j hj => (hown.lt j hj).1); have hcell2 := ((HB1.out.trans (hBa.mono hw1)).cell (p := ⟨b, off + k, none⟩) hbB).trans (((HB1.out.trans (HB.out.mono hw1)).cell (p := ⟨b, off + k, none⟩) hbB).symm.trans hcell))
          go_roundw
          case rel => exact ⟨k + 1, T2, by omega, by go_num, rfl, HT2, by rw [HP.out, List.map_append]; exact hown2, hBa⟩
          case measure => simp [intOf]; omega
        · obtain rfl : k = n := by omega
          have z1 : decide ((k : Int) < (k : Int)) = false := decide_eq_false (by omega)
          have ht := HT.out
          rw [HN.out, List.take_length] at ht
          rw [show xs.take k = xs by rw [HN.out, List.take_length]] at hown
          have hown' := hown
          rw [HN.out] at hown'
          obtain ⟨A2, c2, e2, hU2⟩ := own_words hown'
          rw [← HN.out] at e2
          subst e2
          have HU2 := Lib.hid hU2
          have HBw := Lib.hid (HB1.out.trans (hB.mono hw1))
          have hT := HSS.out
          rw [← ht] at hT HLAW
          clear hown hown' hU2 hB ht HT HTA HA HX hzr hw1
          go_wp2_with fail
          refine (M2.out wr A2 c2 HU2.out).mono ?_
          rintro e w3 ⟨v3, rfl, hown3, hb3⟩
          obtain ⟨A3, c3, rfl, hU3⟩ := own_words hown3
          have hB3 : Below w.heap.size w w3 := HBw.out.trans (hb3.mono HBw.out.size)
          rw [HSL.out, ← HN.out]
          have HB3 := Lib.hid hB3
          have hll := HSL.out
          rw [← HN.out] at hll HLAW
          clear hown3 hb3 hB3 M2 HU2 HSL
          generalize splitN q xs = M at *
          have HLL := Lib.hid hll
          clear hll
          have q1 : ((k : Int) != (k : Int)) = false := by simp
          go_wp2_with fail
          go_loop [11, 12] (fun s11 s12 => ∃ j T2 : Nat, j ≤ k ∧ s12 = .int .i64 j ∧ s11 = .int .u64 T2 ∧ T2 ≤ j * 262144 ∧ Hid (T2 = (M.take j).sum ∧ ∀ i, i < j → 2 < M.getD i 0 ∧ M.getD i 0 < 262144)) (fun _ s12 => k - (intOf s12).toNat)
          case atStart => exact ⟨0, 0, by omega, rfl, rfl, by omega, Lib.hid ⟨rfl, fun i hi => by omega⟩⟩
          case round =>
            obtain ⟨j, T2, hj, rfl, rfl, hT2, HT2⟩ := hrel
            by_cases hlt : j < k
            · have hjM : j < M.length := by rw [HLL.out]; exact hlt
              rcases hU3 with h | ⟨b, off, rfl, hbB, hc⟩
              · rw [h] at hjM; simp at hjM
              have hcell := hc j hjM
              have hmb := HSB.out j hjM
              have hst := sum_take M j hjM
              have y0 : decide ((j : Int) < (k : Int)) = true := decide_eq_true (by omega)
              have y1 : decide (j < k) = true := decide_eq_true hlt
              have j0 : (0 : Int) ≤ (j : Int) := Int.natCast_nonneg _
              have j1 : (j : Int) < (k : Int) := by omega
              have HT3 := Lib.hid fun (h1 : 2 < M.getD j 0) (h2 : M.getD j 0 < 262144) i (hi : i < j + 1) => (show 2 < M.getD i 0 ∧ M.getD i 0 < 262144 by
                rcases Nat.lt_or_ge i j with h | h
                · exact HT2.out.2 i h
                · obtain rfl : i = j := by omega
                  exact ⟨h1, h2⟩)
              have hs0 := HT2.out.1
              clear hc hjM
              generalize M.getD j 0 = m at *
              by_cases c1 : m ≤ 2
              · have y2 : decide ((m : Int) ≤ 2) = true := decide_eq_true (by omega)
                have y3 : decide (m ≤ 2) = true := decide_eq_true c1
                clear hst hs0
                go_wp2_with fail
                all_goals first
                  | (exact absurd (show some undef = some (Value.bool _) by assumption) (by simp [undef]))
                  | (go_ret; exact ⟨rfl, HB3.out⟩)
              · have y2 : decide ((m : Int) ≤ 2) = false := decide_eq_false (by omega)
                have y3 : decide (m ≤ 2) = false := decide_eq_false c1
                by_cases c2 : 262144 ≤ m
                · have y4 : decide ((262144 : Int) ≤ (m : Int)) = true := decide_eq_true (by omega)
                  have y5 : decide (262144 ≤ m) = true := decide_eq_true c2
                  clear hst hs0
                  go_wp2_with fail
                  go_ret
                  exact ⟨rfl, HB3.out⟩
                · have y4 : decide ((262144 : Int) ≤ (m : Int)) = false := decide_eq_false (by omega)
                  have y5 : decide (262144 ≤ m) = false := decide_eq_false c2
                  obtain ⟨T4, hT4⟩ : ∃ T4, T4 = T2 + m := ⟨_, rfl⟩
                  have e5 : IntKind.u64.wrap ((T2 : Int) + (m : Int)) = (T4 : Int) := by rw [IntKind.wrap_u64]; omega
                  have HT4 : Hid (T4 = (M.take (j + 1)).sum ∧ ∀ i, i < j + 1 → 2 < M.getD i 0 ∧ M.getD i 0 < 262144) := Lib.hid ⟨by omega, HT3.out (by omega) (by omega)⟩
                  have hb4 : T4 ≤ (j + 1) * 262144 := by omega
                  clear hst hs0 hT4
                  go_wp2_with fail
                  go_round
                  case rel => exact ⟨j + 1, T4, by omega, by go_num, rfl, hb4, HT4⟩
                  case measure => simp [intOf]; omega
            · obtain rfl : j = k := by omega
              have y0 : decide ((j : Int) < (j : Int)) = false := decide_eq_false (by omega)
              have hsum := HT2.out.1
              rw [show M.take j = M by rw [← HLL.out, List.take_length]] at hsum
              obtain ⟨l1, l2, l3⟩ := HLAW.out (fun m hm => by
                obtain ⟨i, hi, rfl⟩ := List.mem_iff_getElem.1 hm
                have := HT2.out.2 i (by rw [← HLL.out]; exact hi)
                simpa [List.getD, List.getElem?_eq_getElem hi] using this)
              rw [← hsum] at l2 l3
              have y1 : decide ((0 : Int) < (T : Int)) = true := decide_eq_true (by omega)
              have y2 : decide (0 < T) = true := decide_eq_true l1
              have y3 : decide ((T2 : Int) ≤ (q : Int)) = true := decide_eq_true (by omega)
              have y4 : decide (T2 ≤ q) = true := decide_eq_true l2
              obtain ⟨U, hU⟩ : ∃ U, U = T2 + j := ⟨_, rfl⟩
              have e5 : IntKind.u64.wrap ((T2 : Int) + (j : Int)) = (U : Int) := by rw [IntKind.wrap_u64]; omega
              have e6 : IntKind.u64.wrap (j : Int) = (j : Int) := by rw [IntKind.wrap_u64]; omega
              have y5 : decide ((q : Int) < (U : Int)) = true := decide_eq_true (by omega)
              have y6 : decide (q < U) = true := decide_eq_true (by omega)
              clear hU l1 l2 l3 hsum
              go_wp2_with fail
              go_ret
              exact ⟨rfl, HB3.out⟩

set_option maxRecDepth 100000 in
theorem lifted (os : Os) (started : os.Started) (H : Type) (enc : TypeId × Value → H) :
    ReturnsInHanded {} Try.checked os 4 .any (Rows.shareSumsSpec.pre6 enc Try.prog Try.f4 Rows.shareSumsRow.domain false) (Rows.shareSumsSpec.post enc Try.prog Try.f4 false true false false) := by
  refine returnsInHanded_of_change (C := Try.checked) own started (by as_aux_lemma => kernel_rfl) Try.func4
    (ChangeSpec.witness6 (enc := enc) (C := Try.checked) false ⟨#[], #[.int .u32 0, .slice none 0 0], []⟩ 8 (by as_aux_lemma => kernel_rfl) (by as_aux_lemma => kernel_rfl) (by as_aux_lemma => kernel_rfl) (by as_aux_lemma => kernel_rfl)) ?_
  intro W base args ds gs before hval0 hW hcnd _
  have hval : ∀ (j : Nat) t v, Try.f4.params[j]? = some t → args[j]? = some v → Value.okWide Try.prog W .any base t v := hval0
  have hW' := hW
  obtain ⟨p, q, hA0, hV, rfl, hfz, hnd⟩ := hW
  have hA : DataW.TrodAll enc Try.prog W 0 (fun _ => true) true Try.f4.params.toList args.toList ds p := hA0
  rw [Try.params4] at hA hval
  obtain ⟨v0, vs0, d0, ds0, p0, q0, hargs, rfl, rfl, h0, r0⟩ := trodAll_cons hA
  obtain ⟨v1, vs1, d1, ds1, p1, q1, rfl, rfl, rfl, h1, r1⟩ := trodAll_cons r0
  obtain ⟨rfl, rfl, rfl⟩ := trodAll_nil r1
  obtain rfl : args = #[v0, v1] := by cases args; simp_all
  obtain ⟨a0, rfl, b0⟩ := open_u32 Try.underlying27 (hval 0 27 v0 rfl rfl) h0
  obtain ⟨A1, xs1, c1, rfl, U1, X1, L1⟩ := open_u32s Try.underlying28 Try.underlying27 (by kernel_rfl) (hval 1 28 v1 rfl rfl) h1
  refine (walk a0 A1 xs1 c1 b0 W U1 X1 L1).mono fun e W' ⟨he, bel⟩ => ?_
  subst he
  exact ⟨_, rfl, law_post laidOut (by as_aux_lemma => kernel_rfl) rfl Try.underlying4 rfl (fun ds hds => by
    match ds, hds with
    | [x0, x1], _ => rfl) hW' bel⟩

theorem closed : joinedFacts Try.prog 4 Try.f4 Rows.shareSumsSpec Rows.shareSumsRow = true := by
  unfold joinedFacts
  simp only [Bool.and_eq_true]
  exact ⟨⟨⟨⟨⟨⟨⟨⟨⟨⟨⟨⟨⟨⟨⟨⟨⟨⟨⟨⟨⟨⟨⟨⟨⟨⟨⟨⟨⟨⟨⟨(by as_aux_lemma => kernel_rfl), laidOut⟩, mapsRowedT⟩, (by as_aux_lemma => kernel_rfl)⟩, (by as_aux_lemma => kernel_rfl)⟩, rfl⟩, stopsN⟩, rfl⟩, stopKnobsN⟩, (by as_aux_lemma => kernel_rfl)⟩, (by as_aux_lemma => kernel_rfl)⟩, (by as_aux_lemma => kernel_rfl)⟩, (by as_aux_lemma => kernel_rfl)⟩, (by as_aux_lemma => kernel_rfl)⟩, (by as_aux_lemma => kernel_rfl)⟩, (by as_aux_lemma => kernel_rfl)⟩, (by as_aux_lemma => kernel_rfl)⟩, (by as_aux_lemma => kernel_rfl)⟩, (by as_aux_lemma => kernel_rfl)⟩, (by as_aux_lemma => kernel_rfl)⟩, (by as_aux_lemma => kernel_rfl)⟩, (by as_aux_lemma => kernel_rfl)⟩, plainKeysT⟩, rfl⟩, stopsHeardT⟩, mayEnterT⟩, liftedT⟩, makeT⟩, (by as_aux_lemma => kernel_rfl)⟩, (by as_aux_lemma => kernel_rfl)⟩, (by as_aux_lemma => kernel_rfl)⟩, (by as_aux_lemma => kernel_rfl)⟩

theorem over : Rows.shareSumsRow.holds Try.pinned (OpenSpec.ofChange Rows.shareSumsSpec) :=
  OpenClaim.holds_of_wide 4 Try.f4 rfl rfl rfl rfl rfl rfl rfl ⟨rfl, rfl, rfl, rfl, rfl⟩ rfl rfl rfl rfl rfl (by as_aux_lemma => kernel_rfl) Try.func4 closed
    (of_decide_eq_true (by as_aux_lemma => kernel_rfl)) (by unfold Func.isWrapper; first | (rw [if_pos (by decide +kernel)]; as_aux_lemma => kernel_rfl) | (rw [if_neg (by decide +kernel)]; exact ⟨rfl, rfl⟩))
    (fun os started H enc _ => lifted os started H enc)

theorem proved : Rows.ShareSumsSaid := over
#print axioms proved

end shareSums

end Go.Proofs.Ytkemhcokkaanfaa
