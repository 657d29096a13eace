/-
  THE LAWS OF LAYER 2 (wide): for every input each returns true, and its input reads as it did. No conditions.
-/
import Derived.Test.YtnpjacfefocjnaaRefB
import Derived.Test.YtnpjacfefocjnaaFrame
namespace Go.Proofs.Ytnpjacfefocjnaa
open Go.ChangeShapes Go.WideShapes Go.ChangeAt Go.RowKit

theorem cmp_lt {a b c d : Nat} (h : a * b < c * d) : cmpI a b c d = -1 := if_pos h
theorem cmp_eq {a b c d : Nat} (h : a * b = c * d) : cmpI a b c d = 0 := by unfold cmpI; rw [if_neg (by omega), if_pos h]
theorem cmp_gt {a b c d : Nat} (h : c * d < a * b) : cmpI a b c d = 1 := by unfold cmpI; rw [if_neg (by omega), if_neg (by omega)]

namespace wideBack
set_option maxHeartbeats 400000 in
theorem walk (a b c : Nat) (ha : a < 18446744073709551616) (hb : b < 18446744073709551616) (hc : c < 18446744073709551616) (w : World) :
    Calls Try.prog 4 #[.int .u64 a, .int .u64 b, .int .u64 c] w fun e w' => e = .returned (.bool true) ∧ Below w.heap.size w w' := by
  have m1 := fun W => mulDiv_any a b c ha hb hc W
  by_cases hok : a * b < c * 18446744073709551616
  · have hc0 : 0 < c := by rcases Nat.eq_zero_or_pos c with rfl | h <;> omega
    have eq : mdQ a b c = a * b / c := if_pos hok
    have er : mdR a b c = a * b % c := if_pos hok
    have eo : mdOk a b c = true := decide_eq_true hok
    have bq := mdQ_lt a b c
    rw [eq, er, eo] at m1
    rw [eq] at bq
    have hdm := Nat.div_add_mod (a * b) c
    have hr : a * b % c < c := Nat.mod_lt _ hc0
    have cm := fun W => compare_any (a * b / c) c a b bq hc ha hb W
    rw [Nat.mul_comm c] at hdm
    have mm : IntKind.u64.wrap ((a : Int) * (b : Int)) = ((a * b % 18446744073709551616 : Nat) : Int) := by rw [mulN, Mul64.wrapM]
    generalize hP : a * b = P at *
    generalize hQ : P / c = Q at *
    generalize hR : P % c = R at *
    have qq : IntKind.u64.wrap (IntKind.u64.wrap ((Q : Int) * (c : Int)) + (R : Int)) = ((P % 18446744073709551616 : Nat) : Int) := by
      rw [mulN, Mul64.wrapM, IntKind.wrap_u64]
      generalize Q * c = z at *
      omega
    have r1 : decide (R < c) = true := decide_eq_true hr
    have M1 := Lib.hid m1
    clear m1 eq er eo hok
    generalize P % 18446744073709551616 = PP at *
    have cases2 : (R = 0 ∧ cmpI Q c a b = 0) ∨ (((R : Int) == 0) = false ∧ cmpI Q c a b = -1) := by
      rcases Nat.eq_zero_or_pos R with h | h
      · exact .inl ⟨h, cmp_eq (by rw [hP]; omega)⟩
      · exact .inr ⟨by simp; omega, cmp_lt (by rw [hP]; omega)⟩
    clear hdm hr hP hQ hR
    rcases cases2 with ⟨rfl, c2⟩ | ⟨c1, c2⟩
    all_goals
      rw [c2] at cm
      have CM := Lib.hid cm
      clear cm c2
      go_enter Try.func4, Try.ntmps4
      go_wp2_with fail
      refine (awake02 _).mono ?_
      rintro e w1 ⟨rfl, hb1⟩
      have hz1 := hb1.size
      go_wp2_with fail
      refine (M1.out _).mono ?_
      rintro e w2 ⟨rfl, hb2⟩
      have hz2 := hb2.size
      go_wp2_with fail
      refine (CM.out _).mono ?_
      rintro e w3 ⟨rfl, hb3⟩
      go_wp2_with fail
      go_ret
      exact ⟨rfl, hb1.trans ((hb2.mono hz1).trans (hb3.mono (by omega)))⟩
  · have eq : mdQ a b c = 0 := if_neg hok
    have er : mdR a b c = 0 := if_neg hok
    have eo : mdOk a b c = false := decide_eq_false hok
    rw [eq, er, eo] at m1
    have M1 := Lib.hid m1
    clear m1 eq er eo hok
    go_enter Try.func4, Try.ntmps4
    go_wp2_with fail
    refine (awake02 _).mono ?_
    rintro e w1 ⟨rfl, hb1⟩
    have hz1 := hb1.size
    go_wp2_with fail
    refine (M1.out _).mono ?_
    rintro e w2 ⟨rfl, hb2⟩
    go_wp2_with fail
    go_ret
    exact ⟨rfl, hb1.trans (hb2.mono hz1)⟩
set_option maxRecDepth 100000 in
theorem lifted (os : Os) (started : os.Started) (H : Type) (enc : TypeId × Value → H) :
    ReturnsInHanded {} Try.checked os 4 .any (Rows.wideBackSpec.pre6 enc Try.prog Try.f4 Rows.wideBackRow.domain false) (Rows.wideBackSpec.post enc Try.prog Try.f4 false true false false) := by
  refine returnsInHanded_of_change (C := Try.checked) own started (by as_aux_lemma => kernel_rfl) Try.func4
    (ChangeSpec.witness6 (enc := enc) (C := Try.checked) false ⟨#[], #[.int .u64 0, .int .u64 0, .int .u64 0], []⟩ 8 (by as_aux_lemma => kernel_rfl) (by as_aux_lemma => kernel_rfl) (by as_aux_lemma => kernel_rfl) (by as_aux_lemma => kernel_rfl)) ?_
  intro W base args ds gs before hval0 hW hcnd _
  have hval : ∀ (j : Nat) t v, Try.f4.params[j]? = some t → args[j]? = some v → Value.okWide Try.prog W .any base t v := hval0
  have hW' := hW
  obtain ⟨p, q, hA0, hV, rfl, hfz, hnd⟩ := hW
  have hA : DataW.TrodAll enc Try.prog W 0 (fun _ => true) true Try.f4.params.toList args.toList ds p := hA0
  rw [Try.params4] at hA hval
  obtain ⟨v0, vs0, d0, ds0, p0, q0, hargs, rfl, rfl, h0, r0⟩ := trodAll_cons hA
  obtain ⟨v1, vs1, d1, ds1, p1, q1, rfl, rfl, rfl, h1, r1⟩ := trodAll_cons r0
  obtain ⟨v2, vs2, d2, ds2, p2, q2, rfl, rfl, rfl, h2, r2⟩ := trodAll_cons r1
  obtain ⟨rfl, rfl, rfl⟩ := trodAll_nil r2
  obtain rfl : args = #[v0, v1, v2] := by cases args; simp_all
  obtain ⟨a0, rfl, b0⟩ := open_u64 Try.underlying22 (hval 0 22 v0 rfl rfl) h0
  obtain ⟨a1, rfl, b1⟩ := open_u64 Try.underlying22 (hval 1 22 v1 rfl rfl) h1
  obtain ⟨a2, rfl, b2⟩ := open_u64 Try.underlying22 (hval 2 22 v2 rfl rfl) h2
  refine (walk a0 a1 a2 b0 b1 b2 W).mono fun e W' ⟨he, bel⟩ => ?_
  subst he
  exact ⟨_, rfl, law_post laidOut (by as_aux_lemma => kernel_rfl) rfl Try.underlying4 rfl (fun ds hds => by
    match ds, hds with
    | [x0, x1, x2], _ => rfl) hW' bel⟩

theorem closed : joinedFacts Try.prog 4 Try.f4 Rows.wideBackSpec Rows.wideBackRow = true := by
  unfold joinedFacts
  simp only [Bool.and_eq_true]
  exact ⟨⟨⟨⟨⟨⟨⟨⟨⟨⟨⟨⟨⟨⟨⟨⟨⟨⟨⟨⟨⟨⟨⟨⟨⟨⟨⟨⟨⟨⟨⟨(by as_aux_lemma => kernel_rfl), laidOut⟩, mapsRowedT⟩, (by as_aux_lemma => kernel_rfl)⟩, (by as_aux_lemma => kernel_rfl)⟩, rfl⟩, stopsN⟩, rfl⟩, stopKnobsN⟩, (by as_aux_lemma => kernel_rfl)⟩, (by as_aux_lemma => kernel_rfl)⟩, (by as_aux_lemma => kernel_rfl)⟩, (by as_aux_lemma => kernel_rfl)⟩, (by as_aux_lemma => kernel_rfl)⟩, (by as_aux_lemma => kernel_rfl)⟩, (by as_aux_lemma => kernel_rfl)⟩, (by as_aux_lemma => kernel_rfl)⟩, (by as_aux_lemma => kernel_rfl)⟩, (by as_aux_lemma => kernel_rfl)⟩, (by as_aux_lemma => kernel_rfl)⟩, (by as_aux_lemma => kernel_rfl)⟩, (by as_aux_lemma => kernel_rfl)⟩, plainKeysT⟩, rfl⟩, stopsHeardT⟩, mayEnterT⟩, liftedT⟩, makeT⟩, (by as_aux_lemma => kernel_rfl)⟩, (by as_aux_lemma => kernel_rfl)⟩, (by as_aux_lemma => kernel_rfl)⟩, (by as_aux_lemma => kernel_rfl)⟩

theorem over : Rows.wideBackRow.holds Try.pinned (OpenSpec.ofChange Rows.wideBackSpec) :=
  OpenClaim.holds_of_wide 4 Try.f4 rfl rfl rfl rfl rfl rfl rfl ⟨rfl, rfl, rfl, rfl, rfl⟩ rfl rfl rfl rfl rfl (by as_aux_lemma => kernel_rfl) Try.func4 closed
    (of_decide_eq_true (by as_aux_lemma => kernel_rfl)) (by unfold Func.isWrapper; first | (rw [if_pos (by decide +kernel)]; as_aux_lemma => kernel_rfl) | (rw [if_neg (by decide +kernel)]; exact ⟨rfl, rfl⟩))
    (fun os started H enc _ => lifted os started H enc)

theorem proved : Rows.WideBackSaid := over
#print axioms proved

end wideBack

end Go.Proofs.Ytnpjacfefocjnaa
