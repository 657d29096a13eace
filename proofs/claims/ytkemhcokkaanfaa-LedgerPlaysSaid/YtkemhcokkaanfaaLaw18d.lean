/-
  LedgerFails.
-/
import Derived.Test.YtkemhcokkaanfaaLaw18c
import Derived.Test.YtkemhcokkaanfaaBetter
namespace Go.Proofs.Ytkemhcokkaanfaa
open Go.ChangeShapes Go.WideShapes Go.ChangeAt Go.RowKit Go.Deep Go.Maps

/-- numbers in a block not below base -/
def RowAt (w : World) (base : Nat) (A : Option Addr) (zs : List Int) : Prop :=
  zs = [] ∨ ∃ b, A = some ⟨b, 0, none⟩ ∧ base ≤ b ∧ b < w.heap.size ∧ ∀ j, j < zs.length → w.cell? ⟨b, 0 + j, none⟩ = some (.int .i64 (zs.getD j 0))
theorem RowAt.ints {w : World} {base : Nat} {A : Option Addr} {zs : List Int} (h : RowAt w base A zs) : IntsAt w w.heap.size A zs := by
  rcases h with h | ⟨b, e, _, hb, hc⟩
  · exact .inl h
  · exact .inr ⟨b, 0, e, hb, hc⟩
theorem RowAt.below {w w' : World} {base : Nat} {A : Option Addr} {zs : List Int} (h : RowAt w base A zs) (k : Below w.heap.size w w') : RowAt w' base A zs := by
  rcases h with h | ⟨b, e, h1, hb, hc⟩
  · exact .inl h
  · exact .inr ⟨b, e, h1, Nat.lt_of_lt_of_le hb k.size, fun j hj => (k.cell (p := ⟨b, 0 + j, none⟩) hb).trans (hc j hj)⟩
theorem RowAt.turns {w w' : World} {base p bt bg : Nat} {A : Option Addr} {zs : List Int} (h : RowAt w base A zs) (k : Turns [p, bt, bg] w w') (h1 : p < base) (h2 : bt < base) (h3 : bg < base) : RowAt w' base A zs := by
  rcases h with h | ⟨b, e, h0, hb, hc⟩
  · exact .inl h
  · refine .inr ⟨b, e, h0, Nat.lt_of_lt_of_le hb k.size, fun j hj => (k.cell (a := ⟨b, 0 + j, none⟩) hb ?_).trans (hc j hj)⟩
    simp only [List.mem_cons, List.mem_nil_iff, or_false]
    omega
theorem own_row {w : World} {base : Nat} {v : Value} {zs : List Int} {e : TypeId} (h : w.ownsRow base e 1 v zs.length (zs.map zv)) :
    ∃ A c, v = .slice A zs.length c ∧ RowAt w base A zs ∧ zs.length ≤ 9223372036854775807 := by
  rcases own_cells h with ⟨rfl, hz⟩ | ⟨g, c, rfl, hb, hg, hl, hc⟩
  · exact ⟨none, 0, by rw [hz], .inl (List.eq_nil_of_length_eq_zero hz), by omega⟩
  · refine ⟨_, _, rfl, .inr ⟨g, rfl, hb, hg, fun j hj => ?_⟩, hl⟩
    rw [Nat.zero_add, hc j (by omega)]
    simp [hj]

section
variable {H : Type} {enc : TypeId × Value → H} {W : World} {v : Value} {d : DataW H} {p : List MemPlace} {b0 : Nat}
set_option maxRecDepth 100000 in
theorem open_bad (hv : Value.okWide Try.prog W .any b0 74 v) (h : DataW.Trod enc Try.prog W 0 (fun _ => true) true 74 v d p) :
    ∃ x : Deed18, v = .agg #[.slice x.A x.zs.length x.c, .int .i64 x.task, .int .i64 x.ns, .bool x.gone] ∧ x.ok W W.heap.size := by
  obtain ⟨v0, v1, v2, v3, y0, y1, y2, y3, n, rfl, _, _, h0, h1, h2, h3⟩ := Joins.open_agg4 Try.underlying74 (by kernel_rfl) (by kernel_rfl) hv h
  obtain ⟨A', zs, c', rfl, hl, hz, hw, hcap⟩ := trod_ints Try.underlying63 Try.underlying3 (by kernel_rfl) h0
  obtain ⟨k, rfl, bk⟩ := trod_i64 Try.underlying3 h1
  obtain ⟨ns, rfl, bn⟩ := trod_i64 Try.underlying2 h2
  obtain ⟨go, rfl⟩ := trod_b Try.underlying4 h3
  exact ⟨⟨A', zs, c', k, ns, go⟩, rfl, ⟨bk.1, bk.2, bn.1, bn.2, hz, hw, hl, hcap⟩⟩
end

namespace ledgerFails
set_option maxRecDepth 100000 in
set_option maxHeartbeats 4000000 in
theorem walk (A : Option Addr) (ds : List Deed18) (c : Nat) (x : Deed18) (w : World) (hU : Deeds18 w w.heap.size A ds) (hX : ∀ d ∈ ds, d.ok w w.heap.size) (hL : ds.length ≤ 9223372036854775807) (hx : x.ok w w.heap.size) :
    Calls Try.prog 11 #[.slice A ds.length c, .agg #[.slice x.A x.zs.length x.c, .int .i64 x.task, .int .i64 x.ns, .bool x.gone]] w fun e w' => e = .returned (.bool true) ∧ Below w.heap.size w w' := by
  have M0 := Lib.hid fun w' (hb : Below w.heap.size w w') => few_any A ds c w' ((hU.below hb) |> fun h => by rcases h with h | ⟨b, off, e, h1, h2⟩; exact .inl h; exact .inr ⟨b, off, e, Nat.lt_of_lt_of_le h1 hb.size, h2⟩) hL (fun d hd => (hX d hd).len)
  have HX : Hid (∀ d ∈ fewL ds, d.ok w w.heap.size ∧ d.zs.length ≤ 20) := Lib.hid fun d hd => ⟨hX d (fewL_mem hd).1, (fewL_mem hd).2⟩
  have hF := fewL_len ds
  have HXX := Lib.hid hx
  have wk := wf64 hx.t1 hx.t2
  clear hU hX hL hx
  generalize ds.length = n0 at *
  generalize fewL ds = F at *
  go_enter Try.func11, Try.ntmps11
  go_wp2_with fail
  refine (shown18 _).mono ?_
  rintro e w1 ⟨rfl, hb1⟩
  have hB0 : Below w.heap.size w (w.alloc (.cells #[.slice x.A x.zs.length x.c, .int .i64 x.task, .int .i64 x.ns, .bool x.gone] 74)) := (Below.refl _ _).alloc (Nat.le_refl _) _
  have X1 : Blk w1 w.heap.size #[.slice x.A x.zs.length x.c, .int .i64 x.task, .int .i64 x.ns, .bool x.gone] 74 := (Blk.new w _ _).below hb1 (by simp)
  have hB1 := hB0.trans (hb1.mono (by simp))
  have hx1 : w.heap.size < w1.heap.size := X1.lt
  clear hB0 hb1
  go_wp2_with fail
  refine (M0.out w1 hB1).mono ?_
  rintro e w2 ⟨v, rfl, hrow, hb2⟩
  obtain ⟨A2, c2, rfl, hD⟩ := own_deeds hrow
  have hz1 := hB1.size
  have hB2 : Below w.heap.size w w2 := hB1.trans (hb2.mono hz1)
  have X2 := X1.below hb2 hx1
  have hz2 := hB2.size
  have hx2 : w.heap.size < w2.heap.size := X2.lt
  have HX2 : Hid (∀ d ∈ F, d.ok w2 w2.heap.size ∧ d.zs.length ≤ 20) := Lib.hid fun d hd => ⟨by
    have h := ((HX.out d hd).1.below hB2)
    exact ⟨h.t1, h.t2, h.n1, h.n2, h.path.mono hz2, h.wf, h.len, h.cap⟩, (HX.out d hd).2⟩
  have HXY : Hid (x.ok w2 w2.heap.size) := Lib.hid (by
    have h := HXX.out.below hB2
    exact ⟨h.t1, h.t2, h.n1, h.n2, h.path.mono hz2, h.wf, h.len, h.cap⟩)
  have HBX := Lib.hid fun W (hW : Below w2.heap.size w2 W) => (⟨Blk.cell (X2.below hW hx2) 0, Blk.cell (X2.below hW hx2) 1, Blk.cell (X2.below hW hx2) 2⟩ : W.cell? ⟨w.heap.size, 0, none⟩ = some (.slice x.A x.zs.length x.c) ∧ W.cell? ⟨w.heap.size, 1, none⟩ = some (.int .i64 x.task) ∧ W.cell? ⟨w.heap.size, 2, none⟩ = some (.int .i64 x.ns))
  clear hrow hB1 hb2 HX M0 X1 X2 HXX
  obtain ⟨n, hn⟩ : ∃ n, n = F.length := ⟨_, rfl⟩
  rw [← hn]
  rw [← hn] at hF
  have HN := Lib.hid hn
  clear hn
  go_wp2_with fail
  refine (lnew_any _).mono ?_
  rintro e w3 ⟨rfl, B3, hb3, hz3⟩
  have S3 : LSt w2 (w2.heap.size + 2) w2.heap.size (w2.heap.size + 1) 0 w3 := ⟨0, 0, _, _, 0, B3, by omega, by omega, hb3⟩
  clear B3 hb3 hz3
  obtain ⟨p, hp⟩ : ∃ p, p = w2.heap.size + 2 := ⟨_, rfl⟩
  obtain ⟨bt, hbt⟩ : ∃ bt, bt = w2.heap.size := ⟨_, rfl⟩
  obtain ⟨bg, hbg⟩ : ∃ bg, bg = w2.heap.size + 1 := ⟨_, rfl⟩
  rw [← hp, ← hbg] at S3
  rw [show LSt w2 p w2.heap.size bg 0 w3 = LSt w2 p bt bg 0 w3 by rw [hbt]] at S3
  rw [← hp]
  have i1 : w2.heap.size ≤ p := by omega
  have i2 : w2.heap.size ≤ bt := by omega
  have i3 : w2.heap.size ≤ bg := by omega
  clear hp hbt hbg
  go_wp2_with fail
  go_loopw [8] (fun s8 wr => ∃ k : Nat, k ≤ n ∧ s8 = .int .i64 k ∧ LSt w2 p bt bg k wr) (fun s8 _ => n - (intOf s8).toNat)
  case atStart => exact ⟨0, by omega, rfl, S3⟩
  case round =>
    obtain ⟨k, hk, rfl, HS⟩ := hrel
    have hbw : Below w2.heap.size w2 wr := by
      obtain ⟨_, _, _, _, _, _, _, _, h⟩ := HS
      exact h
    by_cases hlt : k < n
    · have hkF : k < F.length := by rw [← HN.out]; exact hlt
      obtain ⟨b', off, rfl, hbB, hat, hm, hok⟩ := few_facts hD (fun d hd => (HX2.out d hd).1) (Below.refl _ _) hkF
      obtain ⟨d0, d1, d2, d3⟩ := hat.below hbw hbB
      have hl20 := (HX2.out _ hm).2
      have HS2 := Lib.hid HS
      clear HS hat hm hkF
      generalize F.getD k Deed18.none = d at *
      have z1 : decide ((k : Int) < (n : Int)) = true := decide_eq_true (by omega)
      have z2 : decide (k < n) = true := decide_eq_true hlt
      have j0 : (0 : Int) ≤ (k : Int) := Int.natCast_nonneg _
      have j1 : (k : Int) < (n : Int) := by omega
      have MS := Lib.hid fun W (hW : Below wr.heap.size wr W) => LSt.step HS2.out (by omega) i1 i2 i3 d hok hl20 hW
      clear hok
      go_wp2_with fail
      go_still_tail 16, (by kernel_rfl)
      go_wp2_with fail
      refine (MS.out wr.drew (Below.refl _ _).drew).mono ?_
      rintro e w4 ⟨⟨r, rfl⟩, HS3⟩
      go_wp2_with fail
      go_roundw
      case rel => exact ⟨k + 1, by omega, by go_num, HS3⟩
      case measure => simp [intOf]; omega
    · obtain rfl : k = n := by omega
      have z1 : decide ((k : Int) < (k : Int)) = false := decide_eq_false (by omega)
      obtain ⟨nt, ng, t, gg, tot, B, hnt, hng, hB⟩ := HS
      have M1 := Lib.hid (ltotal_any wr B)
      have M2 := Lib.hid (ltasks_any wr B (by omega))
      have HB := Lib.hid (And.intro B (And.intro hB (And.intro hB2 (And.intro hz2 (And.intro i1 (And.intro i2 i3))))))
      have i4 : p < wr.heap.size := B.blk.lt
      have i5 : bt < wr.heap.size := B.ht.lt
      have i6 : bg < wr.heap.size := B.hg.lt
      have hxw : w.heap.size < wr.heap.size := by have := hB.size; omega
      obtain ⟨x0, x1, x2⟩ := HBX.out wr hB
      clear B hB hB2 S3 hD HX2 hz1 hz2 i1 i2 i3 hbw
      go_wp2_with fail
      refine M1.out.mono ?_
      rintro e w4 ⟨rfl, rfl⟩
      go_wp2_with fail
      refine M2.out.mono ?_
      rintro e w5 ⟨v5, ss, rfl, hT5, hrow5, hb5⟩
      obtain ⟨A5, c5, rfl, hR5, hl5⟩ := own_row hrow5
      have HT5 := Lib.hid (And.intro hT5 hR5)
      clear hT5 hR5 hrow5 M1 M2 x0 x1 x2
      have hB5 : Below w2.heap.size w2 w5 := HB.out.2.1.trans (hb5.mono HB.out.2.1.size)
      obtain ⟨x0, x1, x2⟩ := HBX.out w5 hB5
      have B5 := HB.out.1.below hb5 (Nat.le_refl _)
      have M3 := Lib.hid (ltask_any w5 B5 x.task wk)
      have H5 := Lib.hid (And.intro B5 (And.intro hB5 hb5))
      clear B5 hB5 hb5
      obtain ⟨ow, how⟩ : ∃ ow, ow = t x.task := ⟨_, rfl⟩
      rw [← how] at M3
      have HOW := Lib.hid how
      clear how
      go_wp2_with fail
      refine M3.out.mono ?_
      rintro e w6 ⟨rfl, rfl⟩
      generalize hzl : x.zs.length = zl at *
      have HZL := Lib.hid hzl
      clear hzl
      by_cases hlong : 20 < zl
      · have q0 : decide ((20 : Int) < (zl : Int)) = true := decide_eq_true (by omega)
        go_wp2_with fail
        go_ret
        exact ⟨rfl, HB.out.2.2.1.trans (H5.out.2.1.mono HB.out.2.2.2.1)⟩
      · have q0 : decide ((20 : Int) < (zl : Int)) = false := decide_eq_false (by omega)
        have MC := Lib.hid (credit_any x.A x.zs x.c x.task x.ns w5 H5.out.1 (HXY.out.at_ H5.out.2.1 HB.out.2.2.2.2.1 H5.out.2.1.size) (by rw [HZL.out]; omega) HXY.out.t2 HXY.out.wf (by omega) (by omega))
        rw [HZL.out] at MC
        go_wp2_with fail
        refine MC.out.mono ?_
        rintro e w7 ⟨r, nt', ng', t', g', tot', rfl, B7, T7, hnt', hng', hs⟩
        have hB7 : Below w2.heap.size w2 w7 := turns_base H5.out.2.1 T7 HB.out.2.2.2.2.1 HB.out.2.2.2.2.2.1 HB.out.2.2.2.2.2.2
        have R7 := HT5.out.2.turns T7 i4 i5 i6
        have HH := Lib.hid (And.intro hB7 R7)
        clear x0 x1 x2 MC M3 T7 R7
        obtain ⟨x0, x1, x2⟩ := HBX.out w7 hB7
        clear hB7
        rcases hs with ⟨rfl, hok, hroom, ht', hg', htot'⟩ | ⟨hr, rfl, rfl, rfl⟩
        · unfold credArg at hok
          simp only [Bool.or_eq_false_iff, Bool.not_eq_false', decide_eq_false_iff_not, Int.not_lt] at hok
          obtain ⟨⟨k1, k2⟩, _⟩ := hok
          have e1 : IntKind.i64.wrap (tot + x.ns) = tot' := by have := B7.b0; have := B7.b1; rw [IntKind.wrap_i64]; omega
          have hv := B7.tb x.task
          have hvb := B7.b1
          have MT := Lib.hid fun n => ltotal_any (w7.drewN n) (B7.of (fun _ _ => rfl))
          have MK0 := fun n => ltask_any (w7.drewN n) (B7.of (fun _ _ => rfl)) x.task wk
          have hov : t' x.task = ow + x.ns := by rw [ht', upd_same, HOW.out]
          generalize t' x.task = ov2 at *
          have MK := Lib.hid MK0
          have e2 : IntKind.i64.wrap (ow + x.ns) = ov2 := by rw [IntKind.wrap_i64]; omega
          have q2 : decide (0 ≤ x.ns) = true := decide_eq_true k1
          have q3 : decide (0 ≤ x.task) = true := decide_eq_true k2
          have q4 : (tot' == tot') = true := by simp
          have q5 : (ov2 == ov2) = true := by simp
          clear MK0 hov htot' ht' hg' B7 hv hroom
          go_wp2_with fail
          go_big_quiet ((first | (go_at_call 42; exact quiet_left (MT.out _)) | (go_at_call 50; exact quiet_left (MK.out _))))
          go_wp2_with fail
          go_ret
          exact ⟨rfl, below_drewN (HB.out.2.2.1.trans (HH.out.1.mono HB.out.2.2.2.1)) _⟩
        · have q1 : (r == 0) = false := by rcases hr with ⟨_, rfl⟩ | ⟨_, _, rfl⟩ <;> rfl
          clear hr
          have hb8 : Below w7.heap.size w7 (w7.alloc (.cells #[.int .i64 4, .int .i64 4] 3)) := (Below.refl _ _).alloc (Nat.le_refl _) _
          have B8 := B7.below hb8 (Nat.le_refl _)
          have hp7 : p < w7.heap.size := B7.blk.lt
          have P8 : PathAt (w7.alloc (.cells #[.int .i64 4, .int .i64 4] 3)) p (some ⟨w7.heap.size, 0, none⟩) [4, 4] := .inr ⟨w7.heap.size, 0, rfl, by simp, by omega, fun j hj => by
            match j, hj with
            | 0, _ => simp [go_sem]
            | 1, _ => simp [go_sem]⟩
          have M8 := Lib.hid (credit_arg (some ⟨w7.heap.size, 0, none⟩) [4, 4] 2 1 1 _ B8 P8 (by simp) (by decide))
          have H8 := Lib.hid (And.intro B8 hb8)
          clear B7 B8 P8 hb8
          go_wp2_with fail
          refine M8.out.mono ?_
          rintro e w8 ⟨rfl, hb8'⟩
          have B9 := H8.out.1.below hb8' (Nat.le_refl _)
          have hb78 : Below w7.heap.size w7 w8 := H8.out.2.trans (hb8'.mono (by simp))
          have M9 : Calls Try.prog 40 #[.pointer (some ⟨p, 0, none⟩), .slice none 0 0, .int .i64 (-1), .int .i64 1] w8 fun e w' => e = .returned (.int .i64 1) ∧ Below w8.heap.size w8 w' := credit_arg none [] 0 (-1) 1 w8 B9 (.inl rfl) (by simp) (by decide)
          have H9 := Lib.hid (And.intro B9 hb78)
          replace M9 := Lib.hid M9
          clear B9 hb8' hb78 M8 H8 x0 x1 x2
          go_wp2_with fail
          refine M9.out.mono ?_
          rintro e w9 ⟨rfl, hb9⟩
          have B10 := H9.out.1.below hb9 (Nat.le_refl _)
          have hb79 : Below w7.heap.size w7 w9 := H9.out.2.trans (hb9.mono H9.out.2.size)
          have hB9 : Below w2.heap.size w2 w9 := HH.out.1.trans (hb79.mono HH.out.1.size)
          have R9 := HH.out.2.below hb79
          obtain ⟨x0, x1, x2⟩ := HBX.out w9 hB9
          have N1 := Lib.hid (ltotal_any w9 B10)
          have N2 := ltask_any w9 B10 x.task wk
          rw [← HOW.out] at N2
          replace N2 := Lib.hid N2
          have N3 := Lib.hid (ltasks_any w9 B10 (by omega))
          have H10 := Lib.hid (And.intro hB9 R9)
          have q2 : (tot' == tot') = true := by simp
          have q3 : (ow == ow) = true := by simp
          clear B10 hb79 hB9 R9 hb9 M9 H9 x0 x2
          go_wp2_with fail
          refine N1.out.mono ?_
          rintro e w10 ⟨rfl, rfl⟩
          go_wp2_with fail
          refine N2.out.mono ?_
          rintro e w10 ⟨rfl, rfl⟩
          go_wp2_with fail
          refine N3.out.mono ?_
          rintro e w10 ⟨v10, ss2, rfl, hT10, hrow10, hb10⟩
          obtain ⟨A10, c10, rfl, R10, hl10⟩ := own_row hrow10
          have es : ss2 = ss := hT10.unique HT5.out.1
          subst es
          have R5 := (H10.out.2.below hb10)
          have N4 := lsame_any w10 A10 A5 ss2 ss2 c10 c5 R10.ints R5.ints hl10 hl5
          rw [decide_eq_true rfl] at N4
          replace N4 := Lib.hid N4
          have hBB : Below w2.heap.size w2 w10 := H10.out.1.trans (hb10.mono H10.out.1.size)
          have HBB := Lib.hid hBB
          clear hT10 hrow10 R10 R5 hb10 N1 N2 N3 hBB
          generalize ss2.length = m10 at *
          go_wp2_with fail
          refine N4.out.mono ?_
          rintro e w11 ⟨rfl, hb11⟩
          go_wp2_with fail
          go_ret
          exact ⟨rfl, (HB.out.2.2.1.trans (HBB.out.mono HB.out.2.2.2.1)).trans (hb11.mono (Nat.le_trans HB.out.2.2.2.1 HBB.out.size))⟩

set_option maxRecDepth 100000 in
theorem lifted (os : Os) (started : os.Started) (H : Type) (enc : TypeId × Value → H) :
    ReturnsInHanded {} Try.checked os 11 .any (Rows.ledgerFailsSpec.pre6 enc Try.prog Try.f11 Rows.ledgerFailsRow.domain false) (Rows.ledgerFailsSpec.post enc Try.prog Try.f11 false true false false) := by
  refine returnsInHanded_of_change (C := Try.checked) own started (by as_aux_lemma => kernel_rfl) Try.func11
    (ChangeSpec.witness6 (enc := enc) (C := Try.checked) false ⟨#[], #[.slice none 0 0, .agg #[.slice none 0 0, .int .i64 0, .int .i64 0, .bool false]], []⟩ 8 (by as_aux_lemma => kernel_rfl) (by as_aux_lemma => kernel_rfl) (by as_aux_lemma => kernel_rfl) (by as_aux_lemma => kernel_rfl)) ?_
  intro W base args ds gs before hval0 hW hcnd _
  have hval : ∀ (j : Nat) t v, Try.f11.params[j]? = some t → args[j]? = some v → Value.okWide Try.prog W .any base t v := hval0
  have hW' := hW
  obtain ⟨p, q, hA0, hV, rfl, hfz, hnd⟩ := hW
  have hA : DataW.TrodAll enc Try.prog W 0 (fun _ => true) true Try.f11.params.toList args.toList ds p := hA0
  rw [Try.params11] at hA hval
  obtain ⟨v0, vs0, d0, ds0, p0, q0, hargs, rfl, rfl, h0, r0⟩ := trodAll_cons hA
  obtain ⟨v1, vs1, d1, ds1, p1, q1, rfl, rfl, rfl, h1, r1⟩ := trodAll_cons r0
  obtain ⟨rfl, rfl, rfl⟩ := trodAll_nil r1
  obtain rfl : args = #[v0, v1] := by cases args; simp_all
  obtain ⟨A0, ads0, ac0, rfl, Ud0, Xd0, Ld0⟩ := open_deeds18 (hval 0 72 v0 rfl rfl) h0
  obtain ⟨ax1, rfl, Ux1⟩ := open_bad (hval 1 74 v1 rfl rfl) h1
  refine (walk A0 ads0 ac0 ax1 W Ud0 Xd0 Ld0 Ux1).mono fun e W' ⟨he, bel⟩ => ?_
  subst he
  exact ⟨_, rfl, law_post laidOut (by as_aux_lemma => kernel_rfl) rfl Try.underlying4 rfl (fun ds hds => by
    match ds, hds with
    | [x0, x1], _ => rfl) hW' bel⟩

theorem closed : joinedFacts Try.prog 11 Try.f11 Rows.ledgerFailsSpec Rows.ledgerFailsRow = true := by
  unfold joinedFacts
  simp only [Bool.and_eq_true]
  exact ⟨⟨⟨⟨⟨⟨⟨⟨⟨⟨⟨⟨⟨⟨⟨⟨⟨⟨⟨⟨⟨⟨⟨⟨⟨⟨⟨⟨⟨⟨⟨(by as_aux_lemma => kernel_rfl), laidOut⟩, mapsRowedT⟩, (by as_aux_lemma => kernel_rfl)⟩, (by as_aux_lemma => kernel_rfl)⟩, rfl⟩, stopsN⟩, rfl⟩, stopKnobsN⟩, (by as_aux_lemma => kernel_rfl)⟩, (by as_aux_lemma => kernel_rfl)⟩, (by as_aux_lemma => kernel_rfl)⟩, (by as_aux_lemma => kernel_rfl)⟩, (by as_aux_lemma => kernel_rfl)⟩, (by as_aux_lemma => kernel_rfl)⟩, (by as_aux_lemma => kernel_rfl)⟩, (by as_aux_lemma => kernel_rfl)⟩, (by as_aux_lemma => kernel_rfl)⟩, (by as_aux_lemma => kernel_rfl)⟩, (by as_aux_lemma => kernel_rfl)⟩, (by as_aux_lemma => kernel_rfl)⟩, (by as_aux_lemma => kernel_rfl)⟩, plainKeysT⟩, rfl⟩, stopsHeardT⟩, mayEnterT⟩, liftedT⟩, makeT⟩, (by as_aux_lemma => kernel_rfl)⟩, (by as_aux_lemma => kernel_rfl)⟩, (by as_aux_lemma => kernel_rfl)⟩, (by as_aux_lemma => kernel_rfl)⟩

theorem over : Rows.ledgerFailsRow.holds Try.pinned (OpenSpec.ofChange Rows.ledgerFailsSpec) :=
  OpenClaim.holds_of_wide 11 Try.f11 rfl rfl rfl rfl rfl rfl rfl ⟨rfl, rfl, rfl, rfl, rfl⟩ rfl rfl rfl rfl rfl (by as_aux_lemma => kernel_rfl) Try.func11 closed
    (of_decide_eq_true (by as_aux_lemma => kernel_rfl)) (by unfold Func.isWrapper; first | (rw [if_pos (by decide +kernel)]; as_aux_lemma => kernel_rfl) | (rw [if_neg (by decide +kernel)]; exact ⟨rfl, rfl⟩))
    (fun os started H enc _ => lifted os started H enc)

theorem proved : Rows.LedgerFailsSaid := over
#print axioms proved

end ledgerFails

end Go.Proofs.Ytkemhcokkaanfaa
