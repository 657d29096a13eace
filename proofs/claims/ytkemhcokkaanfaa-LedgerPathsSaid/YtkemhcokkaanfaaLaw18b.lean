/-
  LedgerPaths.
-/
import Derived.Test.YtkemhcokkaanfaaLaw18
namespace Go.Proofs.Ytkemhcokkaanfaa
open Go.ChangeShapes Go.WideShapes Go.ChangeAt Go.RowKit Go.Deep Go.Maps

namespace ledgerPaths
/-- between two credits -/
structure PInv (w : World) (p bt bg i : Nat) (wr : World) (nt ng : Nat) (t g : Int → Int) (tot : Int) : Prop where
  book : BookAt wr p bt bg nt ng t g tot
  ntb : nt ≤ i
  ngb : ng ≤ 3 * i
  totb : tot ≤ i * 4294967295
  g0 : g 0 = tot
  g1 : g 1 ≤ g 0
  g2 : g 2 ≤ g 1
  bel : Below w.heap.size w wr
def PState (w : World) (p bt bg i : Nat) (wr : World) : Prop := ∃ nt ng t g tot, PInv w p bt bg i wr nt ng t g tot

theorem step {w wr : World} {p bt bg i : Nat} (hI : PState w p bt bg i wr) (hi : i < 60) (zs : List Int) (hzs : zs = [0] ∨ zs = [0, 1] ∨ zs = [0, 1, 2]) (A : Option Addr) (c : Nat) (x y : Nat) (hx : x < 256) (hy : y < 4294967296)
    (h1 : w.heap.size ≤ p) (h2 : w.heap.size ≤ bt) (h3 : w.heap.size ≤ bg) (W : World) (hW : Below wr.heap.size wr W) (hp : PathAt W p A zs) :
    Calls Try.prog 40 #[.pointer (some ⟨p, 0, none⟩), .slice A zs.length c, .int .i64 (x : Int), .int .i64 (y : Int)] W fun e w' => e = .returned (.int .i64 0) ∧ PState w p bt bg (i + 1) w' := by
  obtain ⟨nt, ng, t, g, tot, hI⟩ := hI
  have hz := hI.bel.size
  have ht := hI.totb
  have hnt := hI.ntb
  have hng := hI.ngb
  have hb0 := hI.book.b0
  have hok : credArg zs x y = false := by
    unfold credArg
    rw [decide_eq_false (by omega), decide_eq_false (by omega)]
    rcases hzs with rfl | rfl | rfl <;> decide
  have hzl : zs.length ≤ 3 := by rcases hzs with rfl | rfl | rfl <;> simp
  have hzm : ∀ z ∈ zs, z ≤ 9223372036854775807 := by rcases hzs with rfl | rfl | rfl <;> simp
  refine (credit_ok A zs c x y W (hI.book.below hW (Nat.le_refl _)) hp (by omega) hok (by omega) (by omega) hzm (by omega) (by omega)).mono ?_
  rintro e w' ⟨rfl, B, T⟩
  refine ⟨rfl, _, _, _, _, _, B, by omega, by omega, ?_, ?_, ?_, ?_, Below.turns (hI.bel.trans (hW.mono hz)) T ?_ (by have := hW.size; omega)⟩
  · have := hI.totb; push_cast; omega
  · have := hI.g0
    have hm : (0 : Int) ∈ zs := by rcases hzs with rfl | rfl | rfl <;> simp
    simp only [gAdd, hm, if_true]; omega
  · have := hI.g1
    have hm : (0 : Int) ∈ zs := by rcases hzs with rfl | rfl | rfl <;> simp
    simp only [gAdd, hm, if_true]; split <;> omega
  · have := hI.g2
    rcases hzs with rfl | rfl | rfl <;> simp [gAdd] <;> omega
  · intro b hb
    simp only [List.mem_cons, List.mem_nil_iff, or_false] at hb
    rcases hb with rfl | rfl | rfl <;> assumption

theorem path1 (W : World) (p q : Nat) (hp : p < W.heap.size) (hq : q = W.heap.size) : PathAt (W.alloc (.cells #[.int .i64 0] 3)) p (some ⟨q, 0, none⟩) [0] := by
  subst hq
  exact .inr ⟨W.heap.size, 0, rfl, by simp, by omega, fun j hj => by
    match j, hj with
    | 0, _ => simp [go_sem]⟩
theorem path2 (W : World) (p q : Nat) (hp : p < W.heap.size) (hq : q = W.heap.size) : PathAt (W.alloc (.cells #[.int .i64 0, .int .i64 1] 3)) p (some ⟨q, 0, none⟩) [0, 1] := by
  subst hq
  exact .inr ⟨W.heap.size, 0, rfl, by simp, by omega, fun j hj => by
    match j, hj with
    | 0, _ => simp [go_sem]
    | 1, _ => simp [go_sem]⟩
theorem path3 (W : World) (p q : Nat) (hp : p < W.heap.size) (hq : q = W.heap.size) : PathAt (W.alloc (.cells #[.int .i64 0, .int .i64 1, .int .i64 2] 3)) p (some ⟨q, 0, none⟩) [0, 1, 2] := by
  subst hq
  exact .inr ⟨W.heap.size, 0, rfl, by simp, by omega, fun j hj => by
    match j, hj with
    | 0, _ => simp [go_sem]
    | 1, _ => simp [go_sem]
    | 2, _ => simp [go_sem]⟩
theorem PathAt.drew {w : World} {p : Nat} {A : Option Addr} {zs : List Int} (h : PathAt w p A zs) : PathAt w.drew p A zs := h

set_option maxRecDepth 100000 in
set_option maxHeartbeats 4000000 in
theorem walk (A : Option Addr) (xs : List Nat) (c : Nat) (A' : Option Addr) (ys : List Nat) (c' : Nat) (w : World) (hU : NumsAt .u8 w w.heap.size A xs) (hX : ∀ j, j < xs.length → xs.getD j 0 < 256) (hL : xs.length ≤ 9223372036854775807)
    (hU' : NumsAt .u32 w w.heap.size A' ys) (hX' : ∀ j, j < ys.length → ys.getD j 0 < 4294967296) (hL' : ys.length ≤ 9223372036854775807) :
    Calls Try.prog 9 #[.slice A xs.length c, .slice A' ys.length c'] w fun e w' => e = .returned (.bool true) ∧ Below w.heap.size w w' := by
  obtain ⟨n, hn⟩ : ∃ n, n = xs.length := ⟨_, rfl⟩
  obtain ⟨m, hm⟩ : ∃ m, m = ys.length := ⟨_, rfl⟩
  rw [← hn, ← hm]
  rw [← hn] at hL
  rw [← hm] at hL'
  have HX := Lib.hid (And.intro hX hX')
  have HU := Lib.hid (And.intro hU hU')
  have HN := Lib.hid (And.intro hn hm)
  clear hX hX' hU hU' hn hm
  go_enter Try.func9, Try.ntmps9
  go_wp2_with fail
  refine (shown18 _).mono ?_
  rintro e w1 ⟨rfl, hb1⟩
  go_wp2_with fail
  refine (lnew_any _).mono ?_
  rintro e w2 ⟨rfl, B2, hb2, hz2⟩
  have hz1 := hb1.size
  have S2 : PState w (w1.heap.size + 2) w1.heap.size (w1.heap.size + 1) 0 w2 := ⟨0, 0, _, _, 0, B2, by omega, by omega, by omega, rfl, by simp, by simp, hb1.trans (hb2.mono hz1)⟩
  have HB2 := Lib.hid (And.intro hz2 hb2)
  clear B2 hb2 hz2
  obtain ⟨p, hp⟩ : ∃ p, p = w1.heap.size + 2 := ⟨_, rfl⟩
  obtain ⟨bt, hbt⟩ : ∃ bt, bt = w1.heap.size := ⟨_, rfl⟩
  obtain ⟨bg, hbg⟩ : ∃ bg, bg = w1.heap.size + 1 := ⟨_, rfl⟩
  rw [← hp, ← hbg, ← hbt] at S2
  rw [← hp]
  have i1 : w.heap.size ≤ p := by omega
  have i2 : w.heap.size ≤ bt := by omega
  have i3 : w.heap.size ≤ bg := by omega
  clear hp hbt hbg HB2
  go_wp2_with fail
  go_loopw [7, 8] (fun s7 _ wr => ∃ k : Nat, k ≤ n ∧ k ≤ m ∧ k ≤ 60 ∧ s7 = .int .i64 k ∧ PState w p bt bg k wr) (fun s7 _ _ => n - (intOf s7).toNat)
  case atStart => exact ⟨0, by omega, by omega, by omega, rfl, S2⟩
  case round =>
    obtain ⟨k, hk, hkm, hk60, rfl, HS⟩ := hrel
    have hpw : p < wr.heap.size := by
      obtain ⟨_, _, _, _, _, h⟩ := HS
      exact h.book.blk.lt
    have hbw : Below w.heap.size w wr := by
      obtain ⟨_, _, _, _, _, h⟩ := HS
      exact h.bel
    by_cases hgo : k < n ∧ k < m ∧ k < 60
    · obtain ⟨hlt, hlm, h60⟩ := hgo
      obtain ⟨hn, hm⟩ := HN.out
      have hkx : k < xs.length := by omega
      have hky : k < ys.length := by omega
      obtain ⟨b, off, rfl, hbB, hc⟩ := HU.out.1.at_ (by omega)
      obtain ⟨b', off', rfl, hbB', hc'⟩ := HU.out.2.at_ (by omega)
      have cx := hc k hkx
      have cy := hc' k hky
      have hx := HX.out.1 k hkx
      have hy := HX.out.2 k hky
      have HS2 := Lib.hid HS
      have HBW := Lib.hid hbw
      clear HS hc hc' hn hm hkx hky hbw
      generalize xs.getD k 0 = x at *
      generalize ys.getD k 0 = y at *
      have z1 : decide ((k : Int) < (n : Int)) = true := decide_eq_true (by omega)
      have z2 : decide (k < n) = true := decide_eq_true hlt
      have z3 : decide ((k : Int) < 60) = true := decide_eq_true (by omega)
      have z4 : decide (k < 60) = true := decide_eq_true h60
      have z5 : decide ((k : Int) < (m : Int)) = true := decide_eq_true (by omega)
      have z6 : decide (k < m) = true := decide_eq_true hlm
      have j0 : (0 : Int) ≤ (k : Int) := Int.natCast_nonneg _
      have j1 : (k : Int) < (n : Int) := by omega
      have j2 : (k : Int) < (m : Int) := by omega
      have kw : ∀ W, Below wr.heap.size wr W → W.cell? ⟨b, off + k, none⟩ = some (.int .u8 (x : Int)) ∧ W.cell? ⟨b', off' + k, none⟩ = some (.int .u32 (y : Int)) := fun W hW =>
        have hz := HBW.out.size
        ⟨((HBW.out.trans (hW.mono hz)).cell (p := ⟨b, off + k, none⟩) hbB).trans cx, ((HBW.out.trans (hW.mono hz)).cell (p := ⟨b', off' + k, none⟩) hbB').trans cy⟩
      have KW := Lib.hid kw
      clear kw cx cy
      have y1 : IntKind.i64.wrap (x : Int) = (x : Int) := by rw [IntKind.wrap_i64]; omega
      have y2 : IntKind.i64.wrap (y : Int) = (y : Int) := by rw [IntKind.wrap_i64]; omega
      have hB1 : Below wr.heap.size wr (wr.alloc (.cells #[.int .i64 0] 3)) := (Below.refl _ _).alloc (Nat.le_refl _) _
      by_cases c1 : 64 ≤ x
      · have q1 : decide ((64 : Int) ≤ (x : Int)) = true := decide_eq_true (by omega)
        have hB2 : Below wr.heap.size wr ((wr.alloc (.cells #[.int .i64 0] 3)).alloc (.cells #[.int .i64 0, .int .i64 1] 3)) := hB1.alloc (by simp) _
        by_cases c2 : 128 ≤ x
        · have q2 : decide ((128 : Int) ≤ (x : Int)) = true := decide_eq_true (by omega)
          have hB3 : Below wr.heap.size wr (((wr.alloc (.cells #[.int .i64 0] 3)).alloc (.cells #[.int .i64 0, .int .i64 1] 3)).alloc (.cells #[.int .i64 0, .int .i64 1, .int .i64 2] 3)) := hB2.alloc (by simp; omega) _
          obtain ⟨a1, a2⟩ := KW.out _ hB1
          obtain ⟨a3, a4⟩ := KW.out _ hB2
          obtain ⟨a5, a6⟩ := KW.out _ hB3
          have hP : PathAt (((wr.alloc (.cells #[.int .i64 0] 3)).alloc (.cells #[.int .i64 0, .int .i64 1] 3)).alloc (.cells #[.int .i64 0, .int .i64 1, .int .i64 2] 3)) p (some ⟨wr.heap.size + 1 + 1, 0, none⟩) [0, 1, 2] := path3 _ p (wr.heap.size + 1 + 1) (by simp; omega) (by simp)
          have HP := Lib.hid (And.intro hP hB3)
          clear hP
          go_wp2_with fail
          obtain ⟨g1, g2⟩ := KW.out _ HP.out.2
          generalize (((wr.alloc (.cells #[.int .i64 0] 3)).alloc (.cells #[.int .i64 0, .int .i64 1] 3)).alloc (.cells #[.int .i64 0, .int .i64 1, .int .i64 2] 3)) = W3 at g1 g2 HP ⊢
          go_still_tail 12, (by kernel_rfl)
          go_wp2_with fail
          refine (step HS2.out h60 [0, 1, 2] (by simp) _ _ x y hx hy i1 i2 i3 W3.drew HP.out.2.drew (PathAt.drew HP.out.1)).mono ?_
          rintro e w3 ⟨rfl, HS3⟩
          go_wp2_with fail
          go_roundw
          case rel => exact ⟨k + 1, by omega, by omega, by omega, by go_num, HS3⟩
          case measure => simp [intOf]; omega
        · have q2 : decide ((128 : Int) ≤ (x : Int)) = false := decide_eq_false (by omega)
          obtain ⟨a1, a2⟩ := KW.out _ hB1
          obtain ⟨a3, a4⟩ := KW.out _ hB2
          have hP : PathAt ((wr.alloc (.cells #[.int .i64 0] 3)).alloc (.cells #[.int .i64 0, .int .i64 1] 3)) p (some ⟨wr.heap.size + 1, 0, none⟩) [0, 1] := path2 _ p (wr.heap.size + 1) (by simp; omega) (by simp)
          have HP := Lib.hid (And.intro hP hB2)
          clear hP
          go_wp2_with fail
          obtain ⟨g1, g2⟩ := KW.out _ HP.out.2
          generalize ((wr.alloc (.cells #[.int .i64 0] 3)).alloc (.cells #[.int .i64 0, .int .i64 1] 3)) = W3 at g1 g2 HP ⊢
          go_still_tail 12, (by kernel_rfl)
          go_wp2_with fail
          refine (step HS2.out h60 [0, 1] (by simp) _ _ x y hx hy i1 i2 i3 W3.drew HP.out.2.drew (PathAt.drew HP.out.1)).mono ?_
          rintro e w3 ⟨rfl, HS3⟩
          go_wp2_with fail
          go_roundw
          case rel => exact ⟨k + 1, by omega, by omega, by omega, by go_num, HS3⟩
          case measure => simp [intOf]; omega
      · have q1 : decide ((64 : Int) ≤ (x : Int)) = false := decide_eq_false (by omega)
        have q2 : decide ((128 : Int) ≤ (x : Int)) = false := decide_eq_false (by omega)
        obtain ⟨a1, a2⟩ := KW.out _ hB1
        have hP : PathAt (wr.alloc (.cells #[.int .i64 0] 3)) p (some ⟨wr.heap.size, 0, none⟩) [0] := path1 _ p wr.heap.size (by omega) rfl
        have HP := Lib.hid (And.intro hP hB1)
        clear hP
        go_wp2_with fail
        obtain ⟨g1, g2⟩ := KW.out _ HP.out.2
        generalize (wr.alloc (.cells #[.int .i64 0] 3)) = W3 at g1 g2 HP ⊢
        go_still_tail 12, (by kernel_rfl)
        go_wp2_with fail
        refine (step HS2.out h60 [0] (by simp) _ _ x y hx hy i1 i2 i3 W3.drew HP.out.2.drew (PathAt.drew HP.out.1)).mono ?_
        rintro e w3 ⟨rfl, HS3⟩
        go_wp2_with fail
        go_roundw
        case rel => exact ⟨k + 1, by omega, by omega, by omega, by go_num, HS3⟩
        case measure => simp [intOf]; omega
    · have hex : (decide ((k : Int) < (n : Int)) = true ∧ decide (k < n) = true ∧ decide ((k : Int) < (m : Int)) = true ∧ decide (k < m) = true ∧ decide ((k : Int) < 60) = false) ∨
          (decide ((k : Int) < (n : Int)) = true ∧ decide (k < n) = true ∧ decide ((k : Int) < (m : Int)) = false ∧ decide (k < m) = false) ∨ (decide ((k : Int) < (n : Int)) = false ∧ decide (k < n) = false) := by
        by_cases hlt : k < n
        · by_cases hlm : k < m
          · exact .inl ⟨decide_eq_true (by omega), decide_eq_true hlt, decide_eq_true (by omega), decide_eq_true hlm, decide_eq_false (by omega)⟩
          · exact .inr (.inl ⟨decide_eq_true (by omega), decide_eq_true hlt, decide_eq_false (by omega), decide_eq_false hlm⟩)
        · exact .inr (.inr ⟨decide_eq_false (by omega), decide_eq_false hlt⟩)
      obtain ⟨nt, ng, t, g, tot, HI⟩ := HS
      have M0 := lgroup_any wr HI.book 0 (by decide)
      have M1 := lgroup_any wr HI.book 1 (by decide)
      have M2 := lgroup_any wr HI.book 2 (by decide)
      have M3 := ltotal_any wr HI.book
      have e0 := HI.g0
      have e1 := HI.g1
      have e2 := HI.g2
      rw [e0] at M0 e1
      have M0 := Lib.hid M0
      have M1 := Lib.hid M1
      have M2 := Lib.hid M2
      have M3 := Lib.hid M3
      clear HI e0
      generalize g 1 = v1 at *
      generalize g 2 = v2 at *
      have t1 : (tot == tot) = true := by simp
      have t2 : decide (v1 ≤ tot) = true := decide_eq_true e1
      have t3 : decide (v2 ≤ v1) = true := decide_eq_true e2
      have HB := Lib.hid hbw
      clear hbw e1 e2 S2 HN HU HX hb1 hz1
      rcases hex with ⟨z1, z2, z3, z4, z5⟩ | ⟨z1, z2, z3, z4⟩ | ⟨z1, z2⟩
      all_goals
        go_wp2_with fail
        refine M0.out.mono ?_
        rintro e w3 ⟨rfl, rfl⟩
        go_wp2_with fail
        refine M3.out.mono ?_
        rintro e w3 ⟨rfl, rfl⟩
        go_wp2_with fail
        refine M1.out.mono ?_
        rintro e w3 ⟨rfl, rfl⟩
        go_wp2_with fail
        refine M0.out.mono ?_
        rintro e w3 ⟨rfl, rfl⟩
        go_wp2_with fail
        refine M2.out.mono ?_
        rintro e w3 ⟨rfl, rfl⟩
        go_wp2_with fail
        refine M1.out.mono ?_
        rintro e w3 ⟨rfl, rfl⟩
        go_wp2_with fail
        go_ret
        exact ⟨rfl, HB.out⟩

end ledgerPaths

namespace ledgerPaths
set_option maxRecDepth 100000 in
theorem lifted (os : Os) (started : os.Started) (H : Type) (enc : TypeId × Value → H) :
    ReturnsInHanded {} Try.checked os 9 .any (Rows.ledgerPathsSpec.pre6 enc Try.prog Try.f9 Rows.ledgerPathsRow.domain false) (Rows.ledgerPathsSpec.post enc Try.prog Try.f9 false true false false) := by
  refine returnsInHanded_of_change (C := Try.checked) own started (by as_aux_lemma => kernel_rfl) Try.func9
    (ChangeSpec.witness6 (enc := enc) (C := Try.checked) false ⟨#[], #[.slice none 0 0, .slice none 0 0], []⟩ 8 (by as_aux_lemma => kernel_rfl) (by as_aux_lemma => kernel_rfl) (by as_aux_lemma => kernel_rfl) (by as_aux_lemma => kernel_rfl)) ?_
  intro W base args ds gs before hval0 hW hcnd _
  have hval : ∀ (j : Nat) t v, Try.f9.params[j]? = some t → args[j]? = some v → Value.okWide Try.prog W .any base t v := hval0
  have hW' := hW
  obtain ⟨p, q, hA0, hV, rfl, hfz, hnd⟩ := hW
  have hA : DataW.TrodAll enc Try.prog W 0 (fun _ => true) true Try.f9.params.toList args.toList ds p := hA0
  rw [Try.params9] at hA hval
  obtain ⟨v0, vs0, d0, ds0, p0, q0, hargs, rfl, rfl, h0, r0⟩ := trodAll_cons hA
  obtain ⟨v1, vs1, d1, ds1, p1, q1, rfl, rfl, rfl, h1, r1⟩ := trodAll_cons r0
  obtain ⟨rfl, rfl, rfl⟩ := trodAll_nil r1
  obtain rfl : args = #[v0, v1] := by cases args; simp_all
  obtain ⟨A0, xs0, c0, rfl, U0, X0, L0⟩ := open_u8s Try.underlying60 Try.underlying5 (by kernel_rfl) (hval 0 60 v0 rfl rfl) h0
  obtain ⟨A1, xs1, c1, rfl, U1, X1, L1⟩ := open_u32s Try.underlying28 Try.underlying27 (by kernel_rfl) (hval 1 28 v1 rfl rfl) h1
  refine (walk A0 xs0 c0 A1 xs1 c1 W U0 X0 L0 U1 X1 L1).mono fun e W' ⟨he, bel⟩ => ?_
  subst he
  exact ⟨_, rfl, law_post laidOut (by as_aux_lemma => kernel_rfl) rfl Try.underlying4 rfl (fun ds hds => by
    match ds, hds with
    | [x0, x1], _ => rfl) hW' bel⟩

theorem closed : joinedFacts Try.prog 9 Try.f9 Rows.ledgerPathsSpec Rows.ledgerPathsRow = true := by
  unfold joinedFacts
  simp only [Bool.and_eq_true]
  exact ⟨⟨⟨⟨⟨⟨⟨⟨⟨⟨⟨⟨⟨⟨⟨⟨⟨⟨⟨⟨⟨⟨⟨⟨⟨⟨⟨⟨⟨⟨⟨(by as_aux_lemma => kernel_rfl), laidOut⟩, mapsRowedT⟩, (by as_aux_lemma => kernel_rfl)⟩, (by as_aux_lemma => kernel_rfl)⟩, rfl⟩, stopsN⟩, rfl⟩, stopKnobsN⟩, (by as_aux_lemma => kernel_rfl)⟩, (by as_aux_lemma => kernel_rfl)⟩, (by as_aux_lemma => kernel_rfl)⟩, (by as_aux_lemma => kernel_rfl)⟩, (by as_aux_lemma => kernel_rfl)⟩, (by as_aux_lemma => kernel_rfl)⟩, (by as_aux_lemma => kernel_rfl)⟩, (by as_aux_lemma => kernel_rfl)⟩, (by as_aux_lemma => kernel_rfl)⟩, (by as_aux_lemma => kernel_rfl)⟩, (by as_aux_lemma => kernel_rfl)⟩, (by as_aux_lemma => kernel_rfl)⟩, (by as_aux_lemma => kernel_rfl)⟩, plainKeysT⟩, rfl⟩, stopsHeardT⟩, mayEnterT⟩, liftedT⟩, makeT⟩, (by as_aux_lemma => kernel_rfl)⟩, (by as_aux_lemma => kernel_rfl)⟩, (by as_aux_lemma => kernel_rfl)⟩, (by as_aux_lemma => kernel_rfl)⟩

theorem over : Rows.ledgerPathsRow.holds Try.pinned (OpenSpec.ofChange Rows.ledgerPathsSpec) :=
  OpenClaim.holds_of_wide 9 Try.f9 rfl rfl rfl rfl rfl rfl rfl ⟨rfl, rfl, rfl, rfl, rfl⟩ rfl rfl rfl rfl rfl (by as_aux_lemma => kernel_rfl) Try.func9 closed
    (of_decide_eq_true (by as_aux_lemma => kernel_rfl)) (by unfold Func.isWrapper; first | (rw [if_pos (by decide +kernel)]; as_aux_lemma => kernel_rfl) | (rw [if_neg (by decide +kernel)]; exact ⟨rfl, rfl⟩))
    (fun os started H enc _ => lifted os started H enc)

theorem proved : Rows.LedgerPathsSaid := over
#print axioms proved

end ledgerPaths

end Go.Proofs.Ytkemhcokkaanfaa
