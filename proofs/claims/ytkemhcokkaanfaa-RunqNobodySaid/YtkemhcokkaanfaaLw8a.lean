/-
  RunqNobody: a queue that is nil has nobody, whatever the entity and the granularity.
-/
import Derived.Test.YtkemhcokkaanfaaLw8
namespace Go.Proofs.Ytkemhcokkaanfaa
open Go.ChangeShapes Go.WideShapes Go.ChangeAt Go.RowKit Go.Deep Go.Maps

namespace runqNobody
set_option maxRecDepth 100000 in
set_option maxHeartbeats 4000000 in
theorem walk (e : En) (gran : Int) (_h1 : -9223372036854775808 ≤ gran) (_h2 : gran ≤ 9223372036854775807) (w : World) (_hE : e.num) :
    Calls Try.prog 17 #[enV e, .int .i64 gran] w fun r w' => r = .returned (.bool true) ∧ Below w.heap.size w w' := by
  clear _h1 _h2 _hE
  obtain ⟨W1, hW1⟩ : ∃ W1, W1 = w.alloc (.cells (ecells e) 52) := ⟨_, rfl⟩
  have hb1 : Below w.heap.size w W1 := by rw [hW1]; exact (Below.refl _ _).alloc (Nat.le_refl _) _
  have hBx : Blk W1 w.heap.size (ecells e) 52 := by rw [hW1]; exact Blk.new _ _ _
  have HW1 := Lib.hid hW1
  clear hW1
  go_enter Try.func17, Try.ntmps17
  go_wp2_with fail
  rw [← HW1.out]
  refine (awake08 W1).mono ?_
  rintro r w2 ⟨rfl, hb2⟩
  have hB2 := hb1.trans (hb2.mono hb1.size)
  have hBx2 := hBx.below hb2 hBx.lt
  have b0 : w2.cell? ⟨w.heap.size, 0, none⟩ = some (.int .i64 e.id) := Blk.cell hBx2 0
  have HB2 := Lib.hid hB2
  have HBX := Lib.hid hBx2
  clear HW1 hb1 hBx hb2 hB2 hBx2
  have MD : Hid (∀ W, Calls Try.prog 36 #[.pointer none, .int .i64 e.id] W fun r w' => r = .returned (.tuple #[.agg #[.int .i64 0, .int .u64 0, .int .i64 0, .int .u64 0], .int .i64 12]) ∧ Below W.heap.size W w') := Lib.hid fun W => qdrop_nil e.id W
  go_wp2_with fail
  refine (MD.out _).mono ?_
  rintro r w3 ⟨rfl, hb3⟩
  have hB3 := HB2.out.trans (hb3.mono HB2.out.size)
  have hBx3 := HBX.out.below hb3 HBX.out.lt
  have x0 : w3.cell? ⟨w.heap.size, 0, none⟩ = some (.int .i64 e.id) := Blk.cell hBx3 0
  have x1 : w3.cell? ⟨w.heap.size, 1, none⟩ = some (.int .u64 e.wt) := Blk.cell hBx3 1
  have x2 : w3.cell? ⟨w.heap.size, 2, none⟩ = some (.int .i64 e.v) := Blk.cell hBx3 2
  have x3 : w3.cell? ⟨w.heap.size, 3, none⟩ = some (.int .u64 e.rem) := Blk.cell hBx3 3
  have xlt : w.heap.size < w3.heap.size := hBx3.lt
  have MP : Hid (∀ W, Below w3.heap.size w3 W → Calls Try.prog 32 #[.pointer none, .agg #[.int .i64 e.id, .int .u64 e.wt, .int .i64 e.v, .int .u64 e.rem]] W fun r w' => r = .returned (.int .i64 12) ∧ (w'.cell? ⟨w.heap.size, 0, none⟩ = some (.int .i64 e.id) ∧ w'.cell? ⟨w.heap.size, 1, none⟩ = some (.int .u64 e.wt)) ∧ Hid (Below w.heap.size w w')) := Lib.hid fun W hW => (qput_nil e W).mono fun r w' hp => by
    have hB := hW.trans (hp.2.mono hW.size)
    have hx := hBx3.below hB hBx3.lt
    exact ⟨hp.1, ⟨Blk.cell hx 0, Blk.cell hx 1⟩, hB3.trans (hB.mono hB3.size)⟩
  clear b0 hb3 hB3 HBX MD hBx3
  go_wp2_with (first
    | (go_at_call 32; refine (MP.out _ ((Below.refl _ _).alloc (Nat.le_refl _) _)).mono ?_; rintro r w5 ⟨rfl, ⟨y0, y1⟩, HB5⟩)
    | (go_at_call 63; refine (qweigh_nil _ _ _).mono ?_; rintro r w6 ⟨rfl, rfl⟩)
    | (go_at_call 34; refine (qcharge_nil _ _).mono ?_; rintro r w6 ⟨rfl, rfl⟩)
    | (go_at_call 44; refine (qpick_nil _ _).mono ?_; rintro r w6 ⟨rfl, rfl⟩)
    | (go_at_call 45; refine (qyield_nil _ _).mono ?_; rintro r w6 ⟨rfl, rfl⟩)
    | (go_at_call 69; refine (qcur_nil _).mono ?_; rintro r w6 ⟨rfl, rfl⟩)
    | (go_at_call 35; refine (qmin_nil _).mono ?_; rintro r w6 ⟨rfl, rfl⟩)
    | (go_at_call 47; refine (qload_nil _).mono ?_; rintro r w6 ⟨rfl, rfl⟩)
    | (go_at_call 33; refine (qents_nil _).mono ?_; rintro r w6 ⟨rfl, rfl⟩)
    | (go_at_call 70; refine (qflag_nil _).mono ?_; rintro r w6 ⟨rfl, rfl⟩))
  go_ret
  exact ⟨rfl, HB5.out⟩

set_option maxRecDepth 100000 in
theorem lifted (os : Os) (started : os.Started) (H : Type) (enc : TypeId × Value → H) :
    ReturnsInHanded {} Try.checked os 17 .any (Rows.runqNobodySpec.pre6 enc Try.prog Try.f17 Rows.runqNobodyRow.domain false) (Rows.runqNobodySpec.post enc Try.prog Try.f17 false true false false) := by
  refine returnsInHanded_of_change (C := Try.checked) own started (by as_aux_lemma => kernel_rfl) Try.func17
    (ChangeSpec.witness6 (enc := enc) (C := Try.checked) false ⟨#[], #[.agg #[.int .i64 0, .int .u64 0, .int .i64 0, .int .u64 0], .int .i64 0], []⟩ 8 (by as_aux_lemma => kernel_rfl) (by as_aux_lemma => kernel_rfl) (by as_aux_lemma => kernel_rfl) (by as_aux_lemma => kernel_rfl)) ?_
  intro W base args ds gs before hval0 hW hcnd _
  have hval : ∀ (j : Nat) t v, Try.f17.params[j]? = some t → args[j]? = some v → Value.okWide Try.prog W .any base t v := hval0
  have hW' := hW
  obtain ⟨p, q, hA0, hV, rfl, hfz, hnd⟩ := hW
  have hA : DataW.TrodAll enc Try.prog W 0 (fun _ => true) true Try.f17.params.toList args.toList ds p := hA0
  rw [Try.params17] at hA hval
  obtain ⟨v0, vs0, d0, ds0, p0, q0, hargs, rfl, rfl, h0, r0⟩ := trodAll_cons hA
  obtain ⟨v1, vs1, d1, ds1, p1, q1, rfl, rfl, rfl, h1, r1⟩ := trodAll_cons r0
  obtain ⟨rfl, rfl, rfl⟩ := trodAll_nil r1
  obtain rfl : args = #[v0, v1] := by cases args; simp_all
  obtain ⟨ae0, rfl, Ue0⟩ := open_entv (hval 0 52 v0 rfl rfl) h0
  obtain ⟨a1, rfl, b1, c1⟩ := open_i64 Try.underlying2 (hval 1 2 v1 rfl rfl) h1
  refine (walk ae0 a1 b1 c1 W Ue0).mono fun e W' ⟨he, bel⟩ => ?_
  subst he
  exact ⟨_, rfl, law_post laidOut (by as_aux_lemma => kernel_rfl) rfl Try.underlying4 rfl (fun ds hds => by
    match ds, hds with
    | [x0, x1], _ => rfl) hW' bel⟩

theorem closed : joinedFacts Try.prog 17 Try.f17 Rows.runqNobodySpec Rows.runqNobodyRow = true := by
  unfold joinedFacts
  simp only [Bool.and_eq_true]
  exact ⟨⟨⟨⟨⟨⟨⟨⟨⟨⟨⟨⟨⟨⟨⟨⟨⟨⟨⟨⟨⟨⟨⟨⟨⟨⟨⟨⟨⟨⟨⟨(by as_aux_lemma => kernel_rfl), laidOut⟩, mapsRowedT⟩, (by as_aux_lemma => kernel_rfl)⟩, (by as_aux_lemma => kernel_rfl)⟩, rfl⟩, stopsN⟩, rfl⟩, stopKnobsN⟩, (by as_aux_lemma => kernel_rfl)⟩, (by as_aux_lemma => kernel_rfl)⟩, (by as_aux_lemma => kernel_rfl)⟩, (by as_aux_lemma => kernel_rfl)⟩, (by as_aux_lemma => kernel_rfl)⟩, (by as_aux_lemma => kernel_rfl)⟩, (by as_aux_lemma => kernel_rfl)⟩, (by as_aux_lemma => kernel_rfl)⟩, (by as_aux_lemma => kernel_rfl)⟩, (by as_aux_lemma => kernel_rfl)⟩, (by as_aux_lemma => kernel_rfl)⟩, (by as_aux_lemma => kernel_rfl)⟩, (by as_aux_lemma => kernel_rfl)⟩, plainKeysT⟩, rfl⟩, stopsHeardT⟩, mayEnterT⟩, liftedT⟩, makeT⟩, (by as_aux_lemma => kernel_rfl)⟩, (by as_aux_lemma => kernel_rfl)⟩, (by as_aux_lemma => kernel_rfl)⟩, (by as_aux_lemma => kernel_rfl)⟩

theorem over : Rows.runqNobodyRow.holds Try.pinned (OpenSpec.ofChange Rows.runqNobodySpec) :=
  OpenClaim.holds_of_wide 17 Try.f17 rfl rfl rfl rfl rfl rfl rfl ⟨rfl, rfl, rfl, rfl, rfl⟩ rfl rfl rfl rfl rfl (by as_aux_lemma => kernel_rfl) Try.func17 closed
    (of_decide_eq_true (by as_aux_lemma => kernel_rfl)) (by unfold Func.isWrapper; first | (rw [if_pos (by decide +kernel)]; as_aux_lemma => kernel_rfl) | (rw [if_neg (by decide +kernel)]; exact ⟨rfl, rfl⟩))
    (fun os started H enc _ => lifted os started H enc)

theorem proved : Rows.RunqNobodySaid := over
#print axioms proved

end runqNobody

end Go.Proofs.Ytkemhcokkaanfaa
