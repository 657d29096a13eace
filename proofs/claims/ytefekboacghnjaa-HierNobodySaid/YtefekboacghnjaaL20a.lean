/-
  HierNobody: queues that are nil have nobody, whatever the group and the entity.
-/
import Derived.Test.YtefekboacghnjaaMn
import Derived.Test.YtefekboacghnjaaMi
namespace Go.Proofs.Ytefekboacghnjaa
open Go.ChangeShapes Go.WideShapes Go.ChangeAt Go.RowKit Go.Deep Go.Maps

namespace hierNobody
set_option maxRecDepth 100000 in
set_option maxHeartbeats 4000000 in
theorem walk (g : Int) (e : En) (_h1 : -9223372036854775808 ≤ g) (_h2 : g ≤ 9223372036854775807) (w : World) (_hE : e.num) :
    Calls Try.prog 9 #[.int .i64 g, enV e] w fun r w' => r = .returned (.bool true) ∧ Below w.heap.size w w' := by
  clear _h1 _h2 _hE
  obtain ⟨W1, hW1⟩ : ∃ W1, W1 = w.alloc (.cells (ecells e) 32) := ⟨_, rfl⟩
  have hb1 : Below w.heap.size w W1 := by rw [hW1]; exact (Below.refl _ _).alloc (Nat.le_refl _) _
  have hBx : Blk W1 w.heap.size (ecells e) 32 := by rw [hW1]; exact Blk.new _ _ _
  have HW1 := Lib.hid hW1
  clear hW1
  go_enter Try.func9, Try.ntmps9
  go_wp2_with fail
  rw [← HW1.out]
  refine (awake20 W1).mono ?_
  rintro r w2 ⟨rfl, hb2⟩
  have hB2 := hb1.trans (hb2.mono hb1.size)
  have hBx2 := hBx.below hb2 hBx.lt
  have b0 : w2.cell? ⟨w.heap.size, 0, none⟩ = some (.int .i64 e.id) := Blk.cell hBx2 0
  have HB2 := Lib.hid hB2
  have HBX := Lib.hid hBx2
  clear HW1 hb1 hBx hb2 hB2 hBx2
  have MD : Hid (∀ W, Calls Try.prog 32 #[.pointer none, .int .i64 g, .int .i64 e.id] W fun r w' => r = .returned (.tuple #[.agg #[.int .i64 0, .int .u64 0, .int .i64 0, .int .u64 0], .int .i64 1]) ∧ Below W.heap.size W w') := Lib.hid fun W => hdrop_nil g e.id W
  go_wp2_with fail
  refine (MD.out _).mono ?_
  rintro r w3 ⟨rfl, hb3⟩
  have hB3 := HB2.out.trans (hb3.mono HB2.out.size)
  have hBx3 := HBX.out.below hb3 HBX.out.lt
  have x0 : w3.cell? ⟨w.heap.size, 0, none⟩ = some (.int .i64 e.id) := Blk.cell hBx3 0
  have x1 : w3.cell? ⟨w.heap.size, 1, none⟩ = some (.int .u64 e.wt) := Blk.cell hBx3 1
  have x2 : w3.cell? ⟨w.heap.size, 2, none⟩ = some (.int .i64 e.v) := Blk.cell hBx3 2
  have x3 : w3.cell? ⟨w.heap.size, 3, none⟩ = some (.int .u64 e.rem) := Blk.cell hBx3 3
  have xlt : w.heap.size < w3.heap.size := hBx3.lt
  have MP : Hid (∀ W, Below w3.heap.size w3 W → Calls Try.prog 30 #[.pointer none, .int .i64 g, .agg #[.int .i64 e.id, .int .u64 e.wt, .int .i64 e.v, .int .u64 e.rem]] W fun r w' => r = .returned (.int .i64 1) ∧ w'.cell? ⟨w.heap.size, 0, none⟩ = some (.int .i64 e.id) ∧ Hid (Below w.heap.size w w')) := Lib.hid fun W hW => (hput_nil g e W).mono fun r w' hp => by
    have hB := hW.trans (hp.2.mono hW.size)
    have hx := hBx3.below hB hBx3.lt
    exact ⟨hp.1, Blk.cell hx 0, hB3.trans (hB.mono hB3.size)⟩
  have MC := Lib.hid fun W => hcharge_nil 1 W
  have ML : Hid (∀ W, Calls Try.prog 47 #[.pointer none, .int .i64 g, .int .i64 e.id, .int .u64 1024] W fun r w' => r = .returned (.int .i64 1) ∧ W = w') := Lib.hid fun W => hnice_nil g e.id 1024 W
  have MW : Hid (∀ W, Calls Try.prog 48 #[.pointer none, .int .i64 g, .int .u64 1024] W fun r w' => r = .returned (.int .i64 1) ∧ W = w') := Lib.hid fun W => hweigh_nil g 1024 W
  clear b0 hb3 hB3 HBX MD hBx3
  go_wp2_with (first
    | (go_at_call 28; refine (hlink_nil _ _).mono ?_; rintro r w6 ⟨rfl, rfl⟩)
    | (go_at_call 29; refine (hmove_nil _ _ _).mono ?_; rintro r w6 ⟨rfl, rfl⟩)
    | (go_at_call 31; refine (hunlink_nil _ _).mono ?_; rintro r w6 ⟨rfl, rfl⟩)
    | (go_at_call 30; refine (MP.out _ ((Below.refl _ _).alloc (Nat.le_refl _) _)).mono ?_; rintro r w5 ⟨rfl, y0, HB5⟩)
    | (go_at_call 47; refine (ML.out _).mono ?_; rintro r w6 ⟨rfl, rfl⟩)
    | (go_at_call 48; refine (MW.out _).mono ?_; rintro r w6 ⟨rfl, rfl⟩)
    | (go_at_call 49; refine (hstop_nil _ _ _).mono ?_; rintro r w6 ⟨rfl, rfl⟩)
    | (go_at_call 38; refine (MC.out _).mono ?_; rintro r w7 ⟨rfl, hb7⟩)
    | (go_at_call 50; refine (hpick_nil _).mono ?_; rintro r w8 ⟨rfl, hb8⟩)
    | (go_at_call 51; refine (hyield_nil _).mono ?_; rintro r w9 ⟨rfl, hb9⟩)
    | (go_at_call 36; refine (hrun_nil _).mono ?_; rintro r w6 ⟨rfl, rfl⟩)
    | (go_at_call 37; refine (hqueue_nil _ _).mono ?_; rintro r w6 ⟨rfl, rfl⟩)
    | (go_at_call 42; refine (hmin_nil _ _).mono ?_; rintro r w6 ⟨rfl, rfl⟩)
    | (go_at_call 44; refine (hload_nil _ _).mono ?_; rintro r w6 ⟨rfl, rfl⟩)
    | (go_at_call 45; refine (hon_nil _ _).mono ?_; rintro r w6 ⟨rfl, rfl⟩)
    | (go_at_call 46; refine (hstopped_nil _ _).mono ?_; rintro r w6 ⟨rfl, rfl⟩)
    | (go_at_call 43; refine (hflag_nil _).mono ?_; rintro r w6 ⟨rfl, rfl⟩))
  go_ret
  have hB7 := HB5.out.trans (hb7.mono HB5.out.size)
  have hB8 := hB7.trans (hb8.mono hB7.size)
  exact ⟨rfl, hB8.trans (hb9.mono hB8.size)⟩

set_option maxRecDepth 100000 in
theorem lifted (os : Os) (started : os.Started) (H : Type) (enc : TypeId × Value → H) :
    ReturnsInHanded {} Try.checked os 9 .any (Rows.hierNobodySpec.pre6 enc Try.prog Try.f9 Rows.hierNobodyRow.domain false) (Rows.hierNobodySpec.post enc Try.prog Try.f9 false true false false) := by
  refine returnsInHanded_of_change (C := Try.checked) own started (by as_aux_lemma => kernel_rfl) Try.func9
    (ChangeSpec.witness6 (enc := enc) (C := Try.checked) false ⟨#[], #[.int .i64 0, .agg #[.int .i64 0, .int .u64 0, .int .i64 0, .int .u64 0]], []⟩ 8 (by as_aux_lemma => kernel_rfl) (by as_aux_lemma => kernel_rfl) (by as_aux_lemma => kernel_rfl) (by as_aux_lemma => kernel_rfl)) ?_
  intro W base args ds gs before hval0 hW hcnd _
  have hval : ∀ (j : Nat) t v, Try.f9.params[j]? = some t → args[j]? = some v → Value.okWide Try.prog W .any base t v := hval0
  have hW' := hW
  obtain ⟨p, q, hA0, hV, rfl, hfz, hnd⟩ := hW
  have hA : DataW.TrodAll enc Try.prog W 0 (fun _ => true) true Try.f9.params.toList args.toList ds p := hA0
  rw [Try.params9] at hA hval
  obtain ⟨v0, vs0, d0, ds0, p0, q0, hargs, rfl, rfl, h0, r0⟩ := trodAll_cons hA
  obtain ⟨v1, vs1, d1, ds1, p1, q1, rfl, rfl, rfl, h1, r1⟩ := trodAll_cons r0
  obtain ⟨rfl, rfl, rfl⟩ := trodAll_nil r1
  obtain rfl : args = #[v0, v1] := by cases args; simp_all
  obtain ⟨a0, rfl, b0, c0⟩ := open_i64 Try.underlying3 (hval 0 3 v0 rfl rfl) h0
  obtain ⟨ae1, rfl, Ue1⟩ := open_entv (hval 1 32 v1 rfl rfl) h1
  refine (walk a0 ae1 b0 c0 W Ue1).mono fun e W' ⟨he, bel⟩ => ?_
  subst he
  exact ⟨_, rfl, law_post laidOut (by as_aux_lemma => kernel_rfl) rfl Try.underlying4 rfl (fun ds hds => by
    match ds, hds with
    | [x0, x1], _ => rfl) hW' bel⟩

theorem closed : joinedFacts Try.prog 9 Try.f9 Rows.hierNobodySpec Rows.hierNobodyRow = true := by
  unfold joinedFacts
  simp only [Bool.and_eq_true]
  exact ⟨⟨⟨⟨⟨⟨⟨⟨⟨⟨⟨⟨⟨⟨⟨⟨⟨⟨⟨⟨⟨⟨⟨⟨⟨⟨⟨⟨⟨⟨⟨(by as_aux_lemma => kernel_rfl), laidOut⟩, mapsRowedT⟩, (by as_aux_lemma => kernel_rfl)⟩, (by as_aux_lemma => kernel_rfl)⟩, rfl⟩, stopsN⟩, rfl⟩, stopKnobsN⟩, (by as_aux_lemma => kernel_rfl)⟩, (by as_aux_lemma => kernel_rfl)⟩, (by as_aux_lemma => kernel_rfl)⟩, (by as_aux_lemma => kernel_rfl)⟩, (by as_aux_lemma => kernel_rfl)⟩, (by as_aux_lemma => kernel_rfl)⟩, (by as_aux_lemma => kernel_rfl)⟩, (by as_aux_lemma => kernel_rfl)⟩, (by as_aux_lemma => kernel_rfl)⟩, (by as_aux_lemma => kernel_rfl)⟩, (by as_aux_lemma => kernel_rfl)⟩, (by as_aux_lemma => kernel_rfl)⟩, (by as_aux_lemma => kernel_rfl)⟩, plainKeysT⟩, rfl⟩, stopsHeardT⟩, mayEnterT⟩, liftedT⟩, makeT⟩, (by as_aux_lemma => kernel_rfl)⟩, (by as_aux_lemma => kernel_rfl)⟩, (by as_aux_lemma => kernel_rfl)⟩, (by as_aux_lemma => kernel_rfl)⟩

theorem over : Rows.hierNobodyRow.holds Try.pinned (OpenSpec.ofChange Rows.hierNobodySpec) :=
  OpenClaim.holds_of_wide 9 Try.f9 rfl rfl rfl rfl rfl rfl rfl ⟨rfl, rfl, rfl, rfl, rfl⟩ rfl rfl rfl rfl rfl (by as_aux_lemma => kernel_rfl) Try.func9 closed
    (of_decide_eq_true (by as_aux_lemma => kernel_rfl)) (by unfold Func.isWrapper; first | (rw [if_pos (by decide +kernel)]; as_aux_lemma => kernel_rfl) | (rw [if_neg (by decide +kernel)]; exact ⟨rfl, rfl⟩))
    (fun os started H enc _ => lifted os started H enc)

theorem proved : Rows.HierNobodySaid := over
#print axioms proved

end hierNobody

end Go.Proofs.Ytefekboacghnjaa
