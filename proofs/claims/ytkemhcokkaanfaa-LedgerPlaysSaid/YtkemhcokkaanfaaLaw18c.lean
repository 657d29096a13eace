/-
  LedgerForgets.
-/
import Derived.Test.YtkemhcokkaanfaaLed7
namespace Go.Proofs.Ytkemhcokkaanfaa
open Go.ChangeShapes Go.WideShapes Go.ChangeAt Go.RowKit Go.Deep Go.Maps

/-- a book, some credits on -/
def LSt (w : World) (p bt bg i : Nat) (wr : World) : Prop := ∃ nt ng t g tot, BookAt wr p bt bg nt ng t g tot ∧ nt ≤ i ∧ ng ≤ 20 * i ∧ Below w.heap.size w wr
theorem turns_base {w wr w' : World} {p bt bg : Nat} (h : Below w.heap.size w wr) (T : Turns [p, bt, bg] wr w') (h1 : w.heap.size ≤ p) (h2 : w.heap.size ≤ bt) (h3 : w.heap.size ≤ bg) : Below w.heap.size w w' :=
  Below.turns h T (by
    intro b hb
    simp only [List.mem_cons, List.mem_nil_iff, or_false] at hb
    rcases hb with rfl | rfl | rfl <;> assumption) h.size
theorem Deed18.ok.at_ {w W : World} {B p : Nat} {d : Deed18} (h : d.ok w B) (hb : Below B w W) (hp : B ≤ p) (hB : B ≤ W.heap.size) : PathAt W p d.A d.zs := by
  rcases (h.path.below hb) with h | ⟨b, off, e, h1, hc⟩
  · exact .inl h
  · exact .inr ⟨b, off, e, by omega, by omega, hc⟩
theorem LSt.step {w wr W : World} {p bt bg i : Nat} (hS : LSt w p bt bg i wr) (hi : i < 60) (h1 : w.heap.size ≤ p) (h2 : w.heap.size ≤ bt) (h3 : w.heap.size ≤ bg) (d : Deed18) (hd : d.ok w w.heap.size) (hl : d.zs.length ≤ 20) (hW : Below wr.heap.size wr W) :
    Calls Try.prog 40 #[.pointer (some ⟨p, 0, none⟩), .slice d.A d.zs.length d.c, .int .i64 d.task, .int .i64 d.ns] W fun e w' => (∃ r, e = .returned (.int .i64 r)) ∧ LSt w p bt bg (i + 1) w' := by
  obtain ⟨nt, ng, t, g, tot, B, hnt, hng, hB⟩ := hS
  have hz := hB.size
  have hBW := hB.trans (hW.mono hz)
  refine (credit_any d.A d.zs d.c d.task d.ns W (B.below hW (Nat.le_refl _)) (hd.at_ hBW h1 hBW.size) (by omega) hd.t2 hd.wf (by omega) (by omega)).mono ?_
  rintro e w' ⟨r, nt', ng', t', g', tot', rfl, B', T, hnt', hng', _⟩
  exact ⟨⟨r, rfl⟩, nt', ng', t', g', tot', B', by omega, by omega, turns_base hBW T h1 h2 h3⟩

/-- a deed of the few, laid open -/
theorem few_facts {w w2 : World} {A : Option Addr} {F : List Deed18} {B B2 : Nat} (hD : Deeds18 w2 B2 A F) (hok : ∀ d ∈ F, d.ok w B) (hb : Below B w w2) {k : Nat} (hk : k < F.length) :
    ∃ b off, A = some ⟨b, off, none⟩ ∧ b < B2 ∧ DeedAt18 w2 b (off + k * 4) (F.getD k Deed18.none) ∧ (F.getD k Deed18.none) ∈ F ∧ (F.getD k Deed18.none).ok w2 B := by
  obtain ⟨b, off, e, h1, h2⟩ := hD.at_ (by omega)
  have hm : F.getD k Deed18.none ∈ F := by rw [List.getD_eq_getElem?_getD, List.getElem?_eq_getElem hk]; exact List.getElem_mem _
  exact ⟨b, off, e, h1, h2 k hk, hm, (hok _ hm).below hb⟩

namespace ledgerForgets
/-- who has nothing is not among those that have something -/
theorem tasks_not {w w2 w6 w8 : World} {v : Value} {T : Int → Int} {ss : List Int} {a : Int} (hT : TasksOf T ss) (hrow : w8.ownsRow w6.heap.size 3 1 v ss.length (ss.map zv)) (h0 : T a = 0) (h6 : Below w2.heap.size w2 w6) (h2 : Below w.heap.size w w2) (hz : w.heap.size ≤ w2.heap.size) (hb : Below w6.heap.size w6 w8) :
    ∃ A c, v = .slice A ss.length c ∧ Hid (Calls Try.prog 59 #[.slice A ss.length c, .int .i64 a] w8 fun e w' => e = .returned (.bool false) ∧ w8 = w') ∧ ss.length ≤ 9223372036854775807 ∧ Hid (Below w.heap.size w w8) := by
  obtain ⟨A, c, e, hI⟩ := own_ints hrow
  have hl : ss.length ≤ 9223372036854775807 := by
    rcases own_cells hrow with ⟨_, h⟩ | ⟨_, _, _, _, _, h, _⟩ <;> omega
  have M := lhas_any w8 A ss c a hI hl
  rw [decide_eq_false (fun hm => (hT.mem a).1 hm h0)] at M
  exact ⟨A, c, e, Lib.hid M, hl, Lib.hid ((h2.trans (h6.mono hz)).trans (hb.mono (Nat.le_trans hz h6.size)))⟩

set_option maxRecDepth 100000 in
set_option maxHeartbeats 4000000 in
theorem walk (A : Option Addr) (ds : List Deed18) (c : Nat) (a b g : Int) (ha1 : -9223372036854775808 ≤ a) (ha2 : a ≤ 9223372036854775807) (hb1 : -9223372036854775808 ≤ b) (hb2 : b ≤ 9223372036854775807) (hg1 : -9223372036854775808 ≤ g) (hg2 : g ≤ 9223372036854775807)
    (w : World) (hU : Deeds18 w w.heap.size A ds) (hX : ∀ d ∈ ds, d.ok w w.heap.size) (hL : ds.length ≤ 9223372036854775807) :
    Calls Try.prog 14 #[.slice A ds.length c, .int .i64 a, .int .i64 b, .int .i64 g] w fun e w' => e = .returned (.bool true) ∧ Below w.heap.size w w' := by
  have wa := wf64 ha1 ha2
  have wb := wf64 hb1 hb2
  have wg := wf64 hg1 hg2
  have M0 := Lib.hid fun w' (hb : Below w.heap.size w w') => few_any A ds c w' ((hU.below hb) |> fun h => by rcases h with h | ⟨b, off, e, h1, h2⟩; exact .inl h; exact .inr ⟨b, off, e, Nat.lt_of_lt_of_le h1 hb.size, h2⟩) hL (fun d hd => (hX d hd).len)
  have HX : Hid (∀ d ∈ fewL ds, d.ok w w.heap.size ∧ d.zs.length ≤ 20) := Lib.hid fun d hd => ⟨hX d (fewL_mem hd).1, (fewL_mem hd).2⟩
  have hF := fewL_len ds
  clear hU hX hL
  generalize ds.length = n0 at *
  generalize fewL ds = F at *
  go_enter Try.func14, Try.ntmps14
  go_wp2_with fail
  refine (shown18 _).mono ?_
  rintro e w1 ⟨rfl, hb1'⟩
  go_wp2_with fail
  refine (M0.out w1 hb1').mono ?_
  rintro e w2 ⟨v, rfl, hrow, hb2'⟩
  obtain ⟨A2, c2, rfl, hD⟩ := own_deeds hrow
  have hz1 := hb1'.size
  have hB2 : Below w.heap.size w w2 := hb1'.trans (hb2'.mono hz1)
  have hz2 := hB2.size
  have HX2 : Hid (∀ d ∈ F, d.ok w2 w2.heap.size ∧ d.zs.length ≤ 20) := Lib.hid fun d hd => ⟨by
    have h := ((HX.out d hd).1.below hB2)
    exact ⟨h.t1, h.t2, h.n1, h.n2, h.path.mono hz2, h.wf, h.len, h.cap⟩, (HX.out d hd).2⟩
  clear hrow hb1' hb2' HX M0
  obtain ⟨n, hn⟩ : ∃ n, n = F.length := ⟨_, rfl⟩
  rw [← hn]
  rw [← hn] at hF
  have HN := Lib.hid hn
  clear hn
  go_wp2_with fail
  refine (lnew_any _).mono ?_
  rintro e w3 ⟨rfl, B3, hb3, hz3⟩
  have S3 : LSt w2 (w2.heap.size + 2) w2.heap.size (w2.heap.size + 1) 0 w3 := ⟨0, 0, _, _, 0, B3, by omega, by omega, hb3⟩
  clear B3 hb3 hz3
  obtain ⟨p, hp⟩ : ∃ p, p = w2.heap.size + 2 := ⟨_, rfl⟩
  obtain ⟨bt, hbt⟩ : ∃ bt, bt = w2.heap.size := ⟨_, rfl⟩
  obtain ⟨bg, hbg⟩ : ∃ bg, bg = w2.heap.size + 1 := ⟨_, rfl⟩
  rw [← hp, ← hbg] at S3
  rw [show LSt w2 p w2.heap.size bg 0 w3 = LSt w2 p bt bg 0 w3 by rw [hbt]] at S3
  rw [← hp]
  have i1 : w2.heap.size ≤ p := by omega
  have i2 : w2.heap.size ≤ bt := by omega
  have i3 : w2.heap.size ≤ bg := by omega
  clear hp hbt hbg
  go_wp2_with fail
  go_loopw [12] (fun s12 wr => ∃ k : Nat, k ≤ n ∧ s12 = .int .i64 k ∧ LSt w2 p bt bg k wr) (fun s12 _ => n - (intOf s12).toNat)
  case atStart => exact ⟨0, by omega, rfl, S3⟩
  case round =>
    obtain ⟨k, hk, rfl, HS⟩ := hrel
    have hbw : Below w2.heap.size w2 wr := by
      obtain ⟨_, _, _, _, _, _, _, _, h⟩ := HS
      exact h
    by_cases hlt : k < n
    · have hkF : k < F.length := by rw [← HN.out]; exact hlt
      obtain ⟨b', off, rfl, hbB, hat, hm, hok⟩ := few_facts hD (fun d hd => (HX2.out d hd).1) (Below.refl _ _) hkF
      obtain ⟨d0, d1, d2, d3⟩ := hat.below hbw hbB
      have hl20 := (HX2.out _ hm).2
      have HS2 := Lib.hid HS
      clear HS hat hm hkF
      generalize F.getD k Deed18.none = d at *
      have z1 : decide ((k : Int) < (n : Int)) = true := decide_eq_true (by omega)
      have z2 : decide (k < n) = true := decide_eq_true hlt
      have j0 : (0 : Int) ≤ (k : Int) := Int.natCast_nonneg _
      have j1 : (k : Int) < (n : Int) := by omega
      have MS := Lib.hid fun W (hW : Below wr.heap.size wr W) => LSt.step HS2.out (by omega) i1 i2 i3 d hok hl20 hW
      clear hok
      go_wp2_with fail
      go_still_tail 16, (by kernel_rfl)
      go_wp2_with fail
      refine (MS.out wr.drew (Below.refl _ _).drew).mono ?_
      rintro e w4 ⟨⟨r, rfl⟩, HS3⟩
      go_wp2_with fail
      go_roundw
      case rel => exact ⟨k + 1, by omega, by go_num, HS3⟩
      case measure => simp [intOf]; omega
    · obtain rfl : k = n := by omega
      have z1 : decide ((k : Int) < (k : Int)) = false := decide_eq_false (by omega)
      obtain ⟨nt, ng, t, gg, tot, B, hnt, hng, hB⟩ := HS
      have M1 := Lib.hid (ltask_any wr B a wa)
      have M2 := Lib.hid (ltask_any wr B b wb)
      have M3 := Lib.hid (lgroup_any wr B g wg)
      have M4 := Lib.hid (ltotal_any wr B)
      have M5 := Lib.hid (lforget_any wr B a wa)
      have HT : Hid (upd t a 0 a = 0 ∧ upd (upd t a 0) a 0 a = 0 ∧ (a ≠ b → upd (upd t a 0) a 0 b = t b)) := Lib.hid ⟨upd_same _ _ _, upd_same _ _ _, fun h => by rw [upd_other _ _ (Ne.symm h), upd_other _ _ (Ne.symm h)]⟩
      clear B
      generalize t a = ta at *
      generalize hT1 : upd t a 0 = T1 at *
      generalize t b = tb at *
      obtain ⟨gv, hgv⟩ : ∃ gv, gv = gg g := ⟨_, rfl⟩
      rw [← hgv] at M3
      have HG := Lib.hid hgv
      clear hgv
      clear hT1
      generalize hT2 : upd T1 a 0 = T2 at *
      have q1 : (ta != ta) = false := by simp
      have q2 : (gv == gv) = true := by simp
      have q3 : (tot == tot) = true := by simp
      have q4 : (tb == tb) = true := by simp
      have HB := Lib.hid (And.intro hB (And.intro hB2 (And.intro hz2 (And.intro i1 (And.intro i2 i3)))))
      have H2 := Lib.hid hT2
      clear hB hB2 hT2 S3 hD HX2 hz1 hz2 i1 i2 i3
      go_wp2_with fail
      refine M1.out.mono ?_
      rintro e w4 ⟨rfl, rfl⟩
      go_wp2_with fail
      refine M2.out.mono ?_
      rintro e w4 ⟨rfl, rfl⟩
      go_wp2_with fail
      refine M3.out.mono ?_
      rintro e w4 ⟨rfl, rfl⟩
      go_wp2_with fail
      refine M4.out.mono ?_
      rintro e w4 ⟨rfl, rfl⟩
      go_wp2_with fail
      refine M5.out.mono ?_
      rintro e w5 ⟨rfl, B5, T5⟩
      have M6 := lforget_any w5 B5 a wa
      rw [HT.out.1, H2.out] at M6
      replace M6 := Lib.hid M6
      clear B5 M1 M2 M3 M4 M5
      go_wp2_with fail
      refine M6.out.mono ?_
      rintro e w6 ⟨rfl, B6, T6⟩
      have N1 := ltask_any w6 B6 a wa
      rw [HT.out.2.1] at N1
      replace N1 := Lib.hid N1
      have N2 : Hid (a ≠ b → Calls Try.prog 50 #[.pointer (some ⟨p, 0, none⟩), .int .i64 b] w6 fun e w' => e = .returned (.int .i64 tb) ∧ w6 = w') := Lib.hid fun h => by
        have := ltask_any w6 B6 b wb
        rw [HT.out.2.2 h] at this
        exact this
      have N3 := lgroup_any w6 B6 g wg
      rw [← HG.out] at N3
      replace N3 := Lib.hid N3
      have N4 := Lib.hid (ltotal_any w6 B6)
      have N5 := Lib.hid (ltasks_any w6 B6 (by omega))
      have hB6 : Below w2.heap.size w2 w6 := turns_base (turns_base HB.out.1 T5 HB.out.2.2.2.1 HB.out.2.2.2.2.1 HB.out.2.2.2.2.2) T6 HB.out.2.2.2.1 HB.out.2.2.2.2.1 HB.out.2.2.2.2.2
      have H6 := Lib.hid hB6
      clear B6 T5 T6 hB6 M6
      go_wp2_with fail
      refine N1.out.mono ?_
      rintro e w7 ⟨rfl, rfl⟩
      by_cases hab : a = b
      · have q5 : (a == b) = true := by simp [hab]
        clear hab N2
        go_wp2_with fail
        refine N3.out.mono ?_
        rintro e w7 ⟨rfl, rfl⟩
        go_wp2_with fail
        refine N4.out.mono ?_
        rintro e w7 ⟨rfl, rfl⟩
        go_wp2_with fail
        refine N5.out.mono ?_
        rintro e w8 ⟨v8, ss, rfl, hT8, hrow8, hb8⟩
        obtain ⟨A8, c8, rfl, hI8, hl8, hend⟩ := tasks_not hT8 hrow8 HT.out.2.1 H6.out HB.out.2.1 HB.out.2.2.1 hb8
        clear hT8 hrow8 hb8
        generalize ss.length = m8 at *
        go_wp2_with fail
        refine hI8.out.mono ?_
        rintro e w9 ⟨rfl, rfl⟩
        go_wp2_with fail
        go_ret
        exact ⟨rfl, hend.out⟩
      · have q5 : (a == b) = false := by simp [hab]
        have N2' := Lib.hid (N2.out hab)
        clear hab N2
        go_wp2_with fail
        refine N2'.out.mono ?_
        rintro e w7 ⟨rfl, rfl⟩
        go_wp2_with fail
        refine N3.out.mono ?_
        rintro e w7 ⟨rfl, rfl⟩
        go_wp2_with fail
        refine N4.out.mono ?_
        rintro e w7 ⟨rfl, rfl⟩
        go_wp2_with fail
        refine N5.out.mono ?_
        rintro e w8 ⟨v8, ss, rfl, hT8, hrow8, hb8⟩
        obtain ⟨A8, c8, rfl, hI8, hl8, hend⟩ := tasks_not hT8 hrow8 HT.out.2.1 H6.out HB.out.2.1 HB.out.2.2.1 hb8
        clear hT8 hrow8 hb8
        generalize ss.length = m8 at *
        go_wp2_with fail
        refine hI8.out.mono ?_
        rintro e w9 ⟨rfl, rfl⟩
        go_wp2_with fail
        go_ret
        exact ⟨rfl, hend.out⟩

set_option maxRecDepth 100000 in
theorem lifted (os : Os) (started : os.Started) (H : Type) (enc : TypeId × Value → H) :
    ReturnsInHanded {} Try.checked os 14 .any (Rows.ledgerForgetsSpec.pre6 enc Try.prog Try.f14 Rows.ledgerForgetsRow.domain false) (Rows.ledgerForgetsSpec.post enc Try.prog Try.f14 false true false false) := by
  refine returnsInHanded_of_change (C := Try.checked) own started (by as_aux_lemma => kernel_rfl) Try.func14
    (ChangeSpec.witness6 (enc := enc) (C := Try.checked) false ⟨#[], #[.slice none 0 0, .int .i64 0, .int .i64 0, .int .i64 0], []⟩ 8 (by as_aux_lemma => kernel_rfl) (by as_aux_lemma => kernel_rfl) (by as_aux_lemma => kernel_rfl) (by as_aux_lemma => kernel_rfl)) ?_
  intro W base args ds gs before hval0 hW hcnd _
  have hval : ∀ (j : Nat) t v, Try.f14.params[j]? = some t → args[j]? = some v → Value.okWide Try.prog W .any base t v := hval0
  have hW' := hW
  obtain ⟨p, q, hA0, hV, rfl, hfz, hnd⟩ := hW
  have hA : DataW.TrodAll enc Try.prog W 0 (fun _ => true) true Try.f14.params.toList args.toList ds p := hA0
  rw [Try.params14] at hA hval
  obtain ⟨v0, vs0, d0, ds0, p0, q0, hargs, rfl, rfl, h0, r0⟩ := trodAll_cons hA
  obtain ⟨v1, vs1, d1, ds1, p1, q1, rfl, rfl, rfl, h1, r1⟩ := trodAll_cons r0
  obtain ⟨v2, vs2, d2, ds2, p2, q2, rfl, rfl, rfl, h2, r2⟩ := trodAll_cons r1
  obtain ⟨v3, vs3, d3, ds3, p3, q3, rfl, rfl, rfl, h3, r3⟩ := trodAll_cons r2
  obtain ⟨rfl, rfl, rfl⟩ := trodAll_nil r3
  obtain rfl : args = #[v0, v1, v2, v3] := by cases args; simp_all
  obtain ⟨A0, ads0, ac0, rfl, Ud0, Xd0, Ld0⟩ := open_deeds18 (hval 0 72 v0 rfl rfl) h0
  obtain ⟨a1, rfl, b1, c1⟩ := open_i64 Try.underlying3 (hval 1 3 v1 rfl rfl) h1
  obtain ⟨a2, rfl, b2, c2⟩ := open_i64 Try.underlying3 (hval 2 3 v2 rfl rfl) h2
  obtain ⟨a3, rfl, b3, c3⟩ := open_i64 Try.underlying3 (hval 3 3 v3 rfl rfl) h3
  refine (walk A0 ads0 ac0 a1 a2 a3 b1 c1 b2 c2 b3 c3 W Ud0 Xd0 Ld0).mono fun e W' ⟨he, bel⟩ => ?_
  subst he
  exact ⟨_, rfl, law_post laidOut (by as_aux_lemma => kernel_rfl) rfl Try.underlying4 rfl (fun ds hds => by
    match ds, hds with
    | [x0, x1, x2, x3], _ => rfl) hW' bel⟩

theorem closed : joinedFacts Try.prog 14 Try.f14 Rows.ledgerForgetsSpec Rows.ledgerForgetsRow = true := by
  unfold joinedFacts
  simp only [Bool.and_eq_true]
  exact ⟨⟨⟨⟨⟨⟨⟨⟨⟨⟨⟨⟨⟨⟨⟨⟨⟨⟨⟨⟨⟨⟨⟨⟨⟨⟨⟨⟨⟨⟨⟨(by as_aux_lemma => kernel_rfl), laidOut⟩, mapsRowedT⟩, (by as_aux_lemma => kernel_rfl)⟩, (by as_aux_lemma => kernel_rfl)⟩, rfl⟩, stopsN⟩, rfl⟩, stopKnobsN⟩, (by as_aux_lemma => kernel_rfl)⟩, (by as_aux_lemma => kernel_rfl)⟩, (by as_aux_lemma => kernel_rfl)⟩, (by as_aux_lemma => kernel_rfl)⟩, (by as_aux_lemma => kernel_rfl)⟩, (by as_aux_lemma => kernel_rfl)⟩, (by as_aux_lemma => kernel_rfl)⟩, (by as_aux_lemma => kernel_rfl)⟩, (by as_aux_lemma => kernel_rfl)⟩, (by as_aux_lemma => kernel_rfl)⟩, (by as_aux_lemma => kernel_rfl)⟩, (by as_aux_lemma => kernel_rfl)⟩, (by as_aux_lemma => kernel_rfl)⟩, plainKeysT⟩, rfl⟩, stopsHeardT⟩, mayEnterT⟩, liftedT⟩, makeT⟩, (by as_aux_lemma => kernel_rfl)⟩, (by as_aux_lemma => kernel_rfl)⟩, (by as_aux_lemma => kernel_rfl)⟩, (by as_aux_lemma => kernel_rfl)⟩

theorem over : Rows.ledgerForgetsRow.holds Try.pinned (OpenSpec.ofChange Rows.ledgerForgetsSpec) :=
  OpenClaim.holds_of_wide 14 Try.f14 rfl rfl rfl rfl rfl rfl rfl ⟨rfl, rfl, rfl, rfl, rfl⟩ rfl rfl rfl rfl rfl (by as_aux_lemma => kernel_rfl) Try.func14 closed
    (of_decide_eq_true (by as_aux_lemma => kernel_rfl)) (by unfold Func.isWrapper; first | (rw [if_pos (by decide +kernel)]; as_aux_lemma => kernel_rfl) | (rw [if_neg (by decide +kernel)]; exact ⟨rfl, rfl⟩))
    (fun os started H enc _ => lifted os started H enc)

theorem proved : Rows.LedgerForgetsSaid := over
#print axioms proved

end ledgerForgets

end Go.Proofs.Ytkemhcokkaanfaa
