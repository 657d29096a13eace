/-
  LedgerNobody, LedgerPaths.
-/
import Derived.Test.YtkemhcokkaanfaaLed5
import Derived.Test.YtkemhcokkaanfaaOpen2
import Derived.StillTailTactics
import Derived.BigQuiet
namespace Go.Proofs.Ytkemhcokkaanfaa
open Go.ChangeShapes Go.WideShapes Go.ChangeAt Go.RowKit Go.Deep Go.Maps

section
variable {H : Type} {enc : TypeId × Value → H} {P : Program} {W : World} {v : Value} {d : DataW H} {p : List MemPlace} {b0 : Nat}
theorem bounds_u8' {n : Int} (h : (Lit.int .u8 n).wf = true) : 0 ≤ n ∧ n ≤ 255 := by
  simp [Lit.wf, IntKind.min, IntKind.max, IntKind.signed, IntKind.bits] at h
  omega
theorem open_u8s {t e : TypeId} (ht : P.underlying t = some (.slice e)) (he : P.underlying e = some (.int .u8)) (hc : P.cellsOf e = 1) (hv : Value.okWide P W .any b0 t v) (h : DataW.Trod enc P W 0 (fun _ => true) true t v d p) :
    ∃ (A : Option Addr) (xs : List Nat) (c : Nat), v = .slice A xs.length c ∧ NumsAt .u8 W W.heap.size A xs ∧ (∀ j, j < xs.length → xs.getD j 0 < 256) ∧ xs.length ≤ 9223372036854775807 := by
  obtain ⟨fuel, y, hf⟩ := okWide_slice1 ht hv h
  exact trod_nums 256 ht he hc (fun z hz => by have := bounds_u8' hz; omega) hf
theorem open_zints {t e : TypeId} (ht : P.underlying t = some (.slice e)) (he : P.underlying e = some (.int .i64)) (hc : P.cellsOf e = 1) (hv : Value.okWide P W .any b0 t v) (h : DataW.Trod enc P W 0 (fun _ => true) true t v d p) :
    ∃ (A : Option Addr) (xs : List Int) (c : Nat), v = .slice A xs.length c ∧ IntsAt W W.heap.size A xs ∧ (∀ z ∈ xs, (Lit.int .i64 z).wf = true) ∧ xs.length ≤ 9223372036854775807 := by
  obtain ⟨fuel, y, hf⟩ := okWide_slice1 ht hv h
  obtain ⟨A, zs, c, e1, hl, hz, hw, _⟩ := trod_ints ht he hc hf
  exact ⟨A, zs, c, e1, hz, hw, hl⟩
end

namespace ledgerNobody
set_option maxRecDepth 100000 in
set_option maxHeartbeats 1000000 in
theorem walk (A : Option Addr) (zs : List Int) (c : Nat) (k ns : Int) (_h1 : -9223372036854775808 ≤ k) (_h2 : k ≤ 9223372036854775807) (_h3 : -9223372036854775808 ≤ ns) (_h4 : ns ≤ 9223372036854775807) (w : World) (_hU : IntsAt w w.heap.size A zs) (_hX : ∀ z ∈ zs, (Lit.int .i64 z).wf = true) (_hL : zs.length ≤ 9223372036854775807) :
    Calls Try.prog 15 #[.slice A zs.length c, .int .i64 k, .int .i64 ns] w fun e w' => e = .returned (.bool true) ∧ Below w.heap.size w w' := by
  have M := Lib.hid fun W => credit_nil A zs c k ns W
  clear _hU _hX _hL _h1 _h2 _h3 _h4
  generalize zs.length = n at *
  go_enter Try.func15, Try.ntmps15
  go_wp2_with (first
    | (go_at_call 38; refine (shown18 _).mono ?_; rintro e w1 ⟨rfl, hb1⟩)
    | (go_at_call 40; refine (M.out _).mono ?_; rintro e w2 ⟨rfl, rfl⟩)
    | (go_at_call 50; refine (ltask_nil _ _).mono ?_; rintro e w3 ⟨rfl, rfl⟩)
    | (go_at_call 41; refine (lgroup_nil _ _).mono ?_; rintro e w3 ⟨rfl, rfl⟩)
    | (go_at_call 42; refine (ltotal_nil _).mono ?_; rintro e w3 ⟨rfl, rfl⟩)
    | (go_at_call 52; refine (lforget_nil _ _).mono ?_; rintro e w3 ⟨rfl, rfl⟩)
    | (go_at_call 49; refine (ltasks_nil _).mono ?_; rintro e w3 ⟨rfl, rfl⟩))
  go_ret
  exact ⟨rfl, hb1⟩

set_option maxRecDepth 100000 in
theorem lifted (os : Os) (started : os.Started) (H : Type) (enc : TypeId × Value → H) :
    ReturnsInHanded {} Try.checked os 15 .any (Rows.ledgerNobodySpec.pre6 enc Try.prog Try.f15 Rows.ledgerNobodyRow.domain false) (Rows.ledgerNobodySpec.post enc Try.prog Try.f15 false true false false) := by
  refine returnsInHanded_of_change (C := Try.checked) own started (by as_aux_lemma => kernel_rfl) Try.func15
    (ChangeSpec.witness6 (enc := enc) (C := Try.checked) false ⟨#[], #[.slice none 0 0, .int .i64 0, .int .i64 0], []⟩ 8 (by as_aux_lemma => kernel_rfl) (by as_aux_lemma => kernel_rfl) (by as_aux_lemma => kernel_rfl) (by as_aux_lemma => kernel_rfl)) ?_
  intro W base args ds gs before hval0 hW hcnd _
  have hval : ∀ (j : Nat) t v, Try.f15.params[j]? = some t → args[j]? = some v → Value.okWide Try.prog W .any base t v := hval0
  have hW' := hW
  obtain ⟨p, q, hA0, hV, rfl, hfz, hnd⟩ := hW
  have hA : DataW.TrodAll enc Try.prog W 0 (fun _ => true) true Try.f15.params.toList args.toList ds p := hA0
  rw [Try.params15] at hA hval
  obtain ⟨v0, vs0, d0, ds0, p0, q0, hargs, rfl, rfl, h0, r0⟩ := trodAll_cons hA
  obtain ⟨v1, vs1, d1, ds1, p1, q1, rfl, rfl, rfl, h1, r1⟩ := trodAll_cons r0
  obtain ⟨v2, vs2, d2, ds2, p2, q2, rfl, rfl, rfl, h2, r2⟩ := trodAll_cons r1
  obtain ⟨rfl, rfl, rfl⟩ := trodAll_nil r2
  obtain rfl : args = #[v0, v1, v2] := by cases args; simp_all
  obtain ⟨A0, xs0, c0, rfl, U0, X0, L0⟩ := open_zints Try.underlying63 Try.underlying3 (by kernel_rfl) (hval 0 63 v0 rfl rfl) h0
  obtain ⟨a1, rfl, b1, c1⟩ := open_i64 Try.underlying3 (hval 1 3 v1 rfl rfl) h1
  obtain ⟨a2, rfl, b2, c2⟩ := open_i64 Try.underlying2 (hval 2 2 v2 rfl rfl) h2
  refine (walk A0 xs0 c0 a1 a2 b1 c1 b2 c2 W U0 X0 L0).mono fun e W' ⟨he, bel⟩ => ?_
  subst he
  exact ⟨_, rfl, law_post laidOut (by as_aux_lemma => kernel_rfl) rfl Try.underlying4 rfl (fun ds hds => by
    match ds, hds with
    | [x0, x1, x2], _ => rfl) hW' bel⟩

theorem closed : joinedFacts Try.prog 15 Try.f15 Rows.ledgerNobodySpec Rows.ledgerNobodyRow = true := by
  unfold joinedFacts
  simp only [Bool.and_eq_true]
  exact ⟨⟨⟨⟨⟨⟨⟨⟨⟨⟨⟨⟨⟨⟨⟨⟨⟨⟨⟨⟨⟨⟨⟨⟨⟨⟨⟨⟨⟨⟨⟨(by as_aux_lemma => kernel_rfl), laidOut⟩, mapsRowedT⟩, (by as_aux_lemma => kernel_rfl)⟩, (by as_aux_lemma => kernel_rfl)⟩, rfl⟩, stopsN⟩, rfl⟩, stopKnobsN⟩, (by as_aux_lemma => kernel_rfl)⟩, (by as_aux_lemma => kernel_rfl)⟩, (by as_aux_lemma => kernel_rfl)⟩, (by as_aux_lemma => kernel_rfl)⟩, (by as_aux_lemma => kernel_rfl)⟩, (by as_aux_lemma => kernel_rfl)⟩, (by as_aux_lemma => kernel_rfl)⟩, (by as_aux_lemma => kernel_rfl)⟩, (by as_aux_lemma => kernel_rfl)⟩, (by as_aux_lemma => kernel_rfl)⟩, (by as_aux_lemma => kernel_rfl)⟩, (by as_aux_lemma => kernel_rfl)⟩, (by as_aux_lemma => kernel_rfl)⟩, plainKeysT⟩, rfl⟩, stopsHeardT⟩, mayEnterT⟩, liftedT⟩, makeT⟩, (by as_aux_lemma => kernel_rfl)⟩, (by as_aux_lemma => kernel_rfl)⟩, (by as_aux_lemma => kernel_rfl)⟩, (by as_aux_lemma => kernel_rfl)⟩

theorem over : Rows.ledgerNobodyRow.holds Try.pinned (OpenSpec.ofChange Rows.ledgerNobodySpec) :=
  OpenClaim.holds_of_wide 15 Try.f15 rfl rfl rfl rfl rfl rfl rfl ⟨rfl, rfl, rfl, rfl, rfl⟩ rfl rfl rfl rfl rfl (by as_aux_lemma => kernel_rfl) Try.func15 closed
    (of_decide_eq_true (by as_aux_lemma => kernel_rfl)) (by unfold Func.isWrapper; first | (rw [if_pos (by decide +kernel)]; as_aux_lemma => kernel_rfl) | (rw [if_neg (by decide +kernel)]; exact ⟨rfl, rfl⟩))
    (fun os started H enc _ => lifted os started H enc)

theorem proved : Rows.LedgerNobodySaid := over
#print axioms proved

end ledgerNobody

end Go.Proofs.Ytkemhcokkaanfaa
