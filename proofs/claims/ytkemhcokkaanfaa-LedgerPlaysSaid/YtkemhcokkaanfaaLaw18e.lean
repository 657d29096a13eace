/-
  LedgerSums.
-/
import Derived.Test.YtkemhcokkaanfaaLaw18d
namespace Go.Proofs.Ytkemhcokkaanfaa
open Go.ChangeShapes Go.WideShapes Go.ChangeAt Go.RowKit Go.Deep Go.Maps

namespace ledgerSums
/-- a book, and what was forgotten -/
def SSt (w : World) (p bt bg i : Nat) (wr : World) (gone : Int) : Prop :=
  ∃ nt ng t g tot, BookAt wr p bt bg nt ng t g tot ∧ nt ≤ i ∧ ng ≤ 20 * i ∧ Below w.heap.size w wr ∧ (∀ x, t x ≠ 0 → 0 ≤ x) ∧ 0 ≤ gone ∧ SumOf t (tot - gone)

theorem credit_step {w wr W : World} {p bt bg i : Nat} {gone : Int} (hS : SSt w p bt bg i wr gone) (hi : i < 60) (h1 : w.heap.size ≤ p) (h2 : w.heap.size ≤ bt) (h3 : w.heap.size ≤ bg) (d : Deed18) (hd : d.ok w w.heap.size) (hl : d.zs.length ≤ 20) (hW : Below wr.heap.size wr W) :
    Calls Try.prog 40 #[.pointer (some ⟨p, 0, none⟩), .slice d.A d.zs.length d.c, .int .i64 d.task, .int .i64 d.ns] W fun e w' => (∃ r, e = .returned (.int .i64 r)) ∧ SSt w p bt bg (i + 1) w' gone := by
  obtain ⟨nt, ng, t, g, tot, B, hnt, hng, hB, hpos, hgo, hsum⟩ := hS
  have hz := hB.size
  have hBW := hB.trans (hW.mono hz)
  refine (credit_any d.A d.zs d.c d.task d.ns W (B.below hW (Nat.le_refl _)) (hd.at_ hBW h1 hBW.size) (by omega) hd.t2 hd.wf (by omega) (by omega)).mono ?_
  rintro e w' ⟨r, nt', ng', t', g', tot', rfl, B', T, hnt', hng', hs⟩
  rcases hs with ⟨rfl, hok, _, rfl, rfl, rfl⟩ | ⟨_, rfl, rfl, rfl⟩
  · unfold credArg at hok
    simp only [Bool.or_eq_false_iff, Bool.not_eq_false', decide_eq_false_iff_not, Int.not_lt] at hok
    refine ⟨⟨_, rfl⟩, nt', ng', _, _, _, B', by omega, by omega, turns_base hBW T h1 h2 h3, fun x hx => ?_, hgo, ?_⟩
    · by_cases e : x = d.task
      · rw [e]; exact hok.1.2
      · rw [upd_other _ _ e] at hx; exact hpos x hx
    · have := hsum.upd d.task (t d.task + d.ns)
      rw [show tot - gone - t d.task + (t d.task + d.ns) = tot + d.ns - gone by omega] at this
      exact this
  · exact ⟨⟨r, rfl⟩, nt', ng', _, _, _, B', by omega, by omega, turns_base hBW T h1 h2 h3, hpos, hgo, hsum⟩

theorem forget_step {w wr : World} {p bt bg i : Nat} {gone : Int} (hS : SSt w p bt bg i wr gone) (h1 : w.heap.size ≤ p) (h2 : w.heap.size ≤ bt) (h3 : w.heap.size ≤ bg) (k : Int) (hk : (Lit.int .i64 k).wf = true) :
    Calls Try.prog 52 #[.pointer (some ⟨p, 0, none⟩), .int .i64 k] wr fun e w' => ∃ v, e = .returned (.int .i64 v) ∧ 0 ≤ v ∧ gone + v ≤ 9223372036854775807 ∧ SSt w p bt bg (i + 1) w' (gone + v) := by
  obtain ⟨nt, ng, t, g, tot, B, hnt, hng, hB, hpos, hgo, hsum⟩ := hS
  refine (lforget_any wr B k hk).mono ?_
  rintro e w' ⟨rfl, B', T⟩
  have hs := hsum.upd k 0
  have hp : 0 ≤ tot - gone - t k + 0 := by
    obtain ⟨K, _, _, e⟩ := hs
    rw [← e]
    refine sumT_pos (fun x => ?_) K
    unfold upd
    have := (B.tb x).1
    split <;> omega
  have hv := B.tb k
  have hb := B.b1
  refine ⟨t k, rfl, hv.1, by omega, nt, ng, _, _, _, B', by omega, by omega, turns_base hB T h1 h2 h3, fun x hx => ?_, by omega, ?_⟩
  · by_cases e : x = k
    · rw [e] at hx; rw [upd_same] at hx; exact absurd rfl hx
    · rw [upd_other _ _ e] at hx; exact hpos x hx
  · rw [show tot - (gone + t k) = tot - gone - t k + 0 by omega]
    exact hs

/-- the sum of the first k -/
theorem sum_take (t : Int → Int) (ss : List Int) (k : Nat) (hk : k < ss.length) : sumT t (ss.take (k + 1)) = sumT t (ss.take k) + t (ss.getD k 0) := by
  have e : ss.getD k 0 = ss[k] := by rw [List.getD_eq_getElem?_getD, List.getElem?_eq_getElem hk]; rfl
  rw [e, ← List.take_append_getElem hk, sumT_append]
  simp [sumT]
theorem sum_take_le {t : Int → Int} (h : ∀ x, 0 ≤ t x) (ss : List Int) (k : Nat) : sumT t (ss.take k) ≤ sumT t ss := by
  have e : sumT t ss = sumT t (ss.take k ++ ss.drop k) := by rw [List.take_append_drop]
  rw [e, sumT_append]
  have := sumT_pos h (ss.drop k)
  omega
theorem rising_at {ss : List Int} (h : ss.Pairwise (· < ·)) (k : Nat) (hk : k + 1 < ss.length) : ss.getD k 0 < ss.getD (k + 1) 0 := by
  rw [List.pairwise_iff_getElem] at h
  have := h k (k + 1) (by omega) hk (by omega)
  simpa [List.getD, List.getElem?_eq_getElem hk, List.getElem?_eq_getElem (show k < ss.length by omega)] using this

set_option maxRecDepth 100000 in
set_option maxHeartbeats 4000000 in
theorem walk (A : Option Addr) (ds : List Deed18) (c : Nat) (g : Int) (hg1 : -9223372036854775808 ≤ g) (hg2 : g ≤ 9223372036854775807)
    (w : World) (hU : Deeds18 w w.heap.size A ds) (hX : ∀ d ∈ ds, d.ok w w.heap.size) (hL : ds.length ≤ 9223372036854775807) :
    Calls Try.prog 13 #[.slice A ds.length c, .int .i64 g] w fun e w' => e = .returned (.bool true) ∧ Below w.heap.size w w' := by
  have wg := wf64 hg1 hg2
  have M0 := Lib.hid fun w' (hb : Below w.heap.size w w') => few_any A ds c w' ((hU.below hb) |> fun h => by rcases h with h | ⟨b, off, e, h1, h2⟩; exact .inl h; exact .inr ⟨b, off, e, Nat.lt_of_lt_of_le h1 hb.size, h2⟩) hL (fun d hd => (hX d hd).len)
  have HX : Hid (∀ d ∈ fewL ds, d.ok w w.heap.size ∧ d.zs.length ≤ 20) := Lib.hid fun d hd => ⟨hX d (fewL_mem hd).1, (fewL_mem hd).2⟩
  have hF := fewL_len ds
  clear hU hX hL
  generalize ds.length = n0 at *
  generalize fewL ds = F at *
  go_enter Try.func13, Try.ntmps13
  go_wp2_with fail
  refine (shown18 _).mono ?_
  rintro e w1 ⟨rfl, hb1'⟩
  go_wp2_with fail
  refine (M0.out w1 hb1').mono ?_
  rintro e w2 ⟨v, rfl, hrow, hb2'⟩
  obtain ⟨A2, c2, rfl, hD⟩ := own_deeds hrow
  have hz1 := hb1'.size
  have hB2 : Below w.heap.size w w2 := hb1'.trans (hb2'.mono hz1)
  have hz2 := hB2.size
  have HX2 : Hid (∀ d ∈ F, d.ok w2 w2.heap.size ∧ d.zs.length ≤ 20) := Lib.hid fun d hd => ⟨by
    have h := ((HX.out d hd).1.below hB2)
    exact ⟨h.t1, h.t2, h.n1, h.n2, h.path.mono hz2, h.wf, h.len, h.cap⟩, (HX.out d hd).2⟩
  clear hrow hb1' hb2' HX M0
  obtain ⟨n, hn⟩ : ∃ n, n = F.length := ⟨_, rfl⟩
  rw [← hn]
  rw [← hn] at hF
  have HN := Lib.hid hn
  clear hn
  go_wp2_with fail
  refine (lnew_any _).mono ?_
  rintro e w3 ⟨rfl, B3, hb3, hz3⟩
  have S3 : SSt w2 (w2.heap.size + 2) w2.heap.size (w2.heap.size + 1) 0 w3 0 := ⟨0, 0, _, _, 0, B3, by omega, by omega, hb3, fun x hx => absurd rfl hx, by omega, SumOf.zero⟩
  clear B3 hb3 hz3
  obtain ⟨p, hp⟩ : ∃ p, p = w2.heap.size + 2 := ⟨_, rfl⟩
  obtain ⟨bt, hbt⟩ : ∃ bt, bt = w2.heap.size := ⟨_, rfl⟩
  obtain ⟨bg, hbg⟩ : ∃ bg, bg = w2.heap.size + 1 := ⟨_, rfl⟩
  rw [← hp, ← hbg] at S3
  rw [show SSt w2 p w2.heap.size bg 0 w3 0 = SSt w2 p bt bg 0 w3 0 by rw [hbt]] at S3
  rw [← hp]
  have i1 : w2.heap.size ≤ p := by omega
  have i2 : w2.heap.size ≤ bt := by omega
  have i3 : w2.heap.size ≤ bg := by omega
  clear hp hbt hbg
  go_wp2_with fail
  go_loopw [8, 9] (fun s8 s9 wr => ∃ (k : Nat) (go : Int), k ≤ n ∧ s9 = .int .i64 k ∧ s8 = .int .i64 go ∧ SSt w2 p bt bg k wr go) (fun _ s9 _ => n - (intOf s9).toNat)
  case atStart => exact ⟨0, 0, by omega, rfl, rfl, S3⟩
  case round =>
    obtain ⟨k, go, hk, rfl, rfl, HS⟩ := hrel
    have hbw : Below w2.heap.size w2 wr := by
      obtain ⟨_, _, _, _, _, _, _, _, h, _⟩ := HS
      exact h
    by_cases hlt : k < n
    · have hkF : k < F.length := by rw [← HN.out]; exact hlt
      obtain ⟨b', off, rfl, hbB, hat, hm, hok⟩ := few_facts hD (fun d hd => (HX2.out d hd).1) (Below.refl _ _) hkF
      obtain ⟨d0, d1, d2, d3⟩ := hat.below hbw hbB
      have hl20 := (HX2.out _ hm).2
      have HS2 := Lib.hid HS
      clear HS hat hm hkF
      generalize F.getD k Deed18.none = d at *
      have z1 : decide ((k : Int) < (n : Int)) = true := decide_eq_true (by omega)
      have z2 : decide (k < n) = true := decide_eq_true hlt
      have j0 : (0 : Int) ≤ (k : Int) := Int.natCast_nonneg _
      have j1 : (k : Int) < (n : Int) := by omega
      have MS := Lib.hid fun W (hW : Below wr.heap.size wr W) => credit_step HS2.out (by omega) i1 i2 i3 d hok hl20 hW
      have MF := Lib.hid (forget_step HS2.out i1 i2 i3 d.task (wf64 hok.t1 hok.t2))
      clear hok
      generalize hgn : d.gone = gn at *
      cases gn
      · clear hgn
        go_wp2_with fail
        go_still_tail 16, (by kernel_rfl)
        go_wp2_with fail
        refine (MS.out wr.drew (Below.refl _ _).drew).mono ?_
        rintro e w4 ⟨⟨r, rfl⟩, HS3⟩
        go_wp2_with fail
        go_roundw
        case rel => exact ⟨k + 1, go, by omega, by go_num, rfl, HS3⟩
        case measure => simp [intOf]; omega
      · clear hgn
        go_wp2_with fail
        refine MF.out.mono ?_
        rintro e w4 ⟨v, rfl, hv0, hv1, HS3⟩
        have hgo0 : 0 ≤ go := by
          obtain ⟨_, _, _, _, _, _, _, _, _, _, h, _⟩ := HS2.out
          exact h
        obtain ⟨s, hs⟩ : ∃ s, s = go + v := ⟨_, rfl⟩
        have e1 : IntKind.i64.wrap (go + v) = s := by rw [IntKind.wrap_i64]; omega
        rw [← hs] at HS3
        clear hs hv1 hgo0 hv0
        go_wp2_with fail
        go_roundw
        case rel => exact ⟨k + 1, s, by omega, by go_num, rfl, HS3⟩
        case measure => simp [intOf]; omega
    · obtain rfl : k = n := by omega
      have z1 : decide ((k : Int) < (k : Int)) = false := decide_eq_false (by omega)
      obtain ⟨nt, ng, t, gg, tot, B, hnt, hng, hB, hpos, hgo0, hsum⟩ := HS
      have M2 := Lib.hid (ltasks_any wr B (by omega))
      have HB := Lib.hid (And.intro B (And.intro hB (And.intro hB2 (And.intro hz2 (And.intro hpos hsum)))))
      clear B hB hB2 hpos hsum S3 hD HX2 hz1 hz2 i1 i2 i3 hbw
      go_wp2_with fail
      refine M2.out.mono ?_
      rintro e w5 ⟨v5, ss, rfl, hT5, hrow5, hb5⟩
      obtain ⟨A5, c5, rfl, hR5, hl5⟩ := own_row hrow5
      have B5 := HB.out.1.below hb5 (Nat.le_refl _)
      have hall := HB.out.2.2.2.2.2.tasks hT5
      have HP : Hid (∀ j, j < ss.length → 0 < t (ss.getD j 0) ∧ 0 ≤ ss.getD j 0 ∧ (Lit.int .i64 (ss.getD j 0)).wf = true ∧ go + sumT t (ss.take j) + t (ss.getD j 0) ≤ tot ∧ 0 ≤ go + sumT t (ss.take j)) := Lib.hid fun j hj => by
        have hm : ss.getD j 0 ∈ ss := by rw [List.getD_eq_getElem?_getD, List.getElem?_eq_getElem hj]; exact List.getElem_mem _
        have h1 := (hT5.mem _).1 hm
        have h2 := B5.tb (ss.getD j 0)
        have h3 := sum_take t ss j hj
        have h4 := sum_take_le (fun x => (B5.tb x).1) ss (j + 1)
        have h5 := sumT_pos (fun x => (B5.tb x).1) (ss.take j)
        exact ⟨by omega, HB.out.2.2.2.2.1 _ h1, hT5.wf _ hm, by omega, by omega⟩
      have HT5 := Lib.hid (And.intro hT5 (And.intro hR5 (And.intro B5 hall)))
      have hb1 := B5.b1
      have HB5 := Lib.hid hb5
      clear hT5 hR5 hrow5 M2 B5 hall hb5
      obtain ⟨m, hm⟩ : ∃ m, m = ss.length := ⟨_, rfl⟩
      rw [← hm]
      rw [← hm] at hl5
      have HM := Lib.hid hm
      clear hm
      go_wp2_with fail
      go_loopw [11, 12] (fun s11 s12 wr => ∃ (j : Nat) (s : Int), j ≤ m ∧ s12 = .int .i64 j ∧ s11 = .int .i64 s ∧ Hid (s = go + sumT t (ss.take j)) ∧ Below w5.heap.size w5 wr) (fun _ s12 _ => m - (intOf s12).toNat)
      case atStart => exact ⟨0, go, by omega, rfl, rfl, by simp [Hid, sumT], Below.refl _ _⟩
      case round =>
        obtain ⟨j, s, hj, rfl, rfl, HSU, hBj⟩ := hrel
        by_cases hlj : j < m
        · have hjs : j < ss.length := by rw [← HM.out]; exact hlj
          obtain ⟨p1, p2, p3, p4, p5⟩ := HP.out j hjs
          rcases HT5.out.2.1 with h | ⟨b5, rfl, hb50, hb5, hc5⟩
          · rw [h] at hjs; simp at hjs
          have cj := (hBj.cell (p := ⟨b5, 0 + j, none⟩) hb5).trans (hc5 j hjs)
          rw [Nat.zero_add] at cj
          have hBK := HT5.out.2.2.1.below hBj (Nat.le_refl _)
          have MKQ0 := fun n => ltask_any (wr.drewN n) (hBK.of (fun _ _ => rfl)) (ss.getD j 0) p3
          have MK0 := ltask_any wr hBK (ss.getD j 0) p3
          have hst := sum_take t ss j hjs
          have q3 : ∀ i, j = i + 1 → wr.cell? ⟨b5, i, none⟩ = some (.int .i64 (ss.getD i 0)) ∧ ss.getD i 0 < ss.getD j 0 := fun i hi => by
            subst hi
            refine ⟨?_, rising_at HT5.out.1.up i hjs⟩
            have := (hBj.cell (p := ⟨b5, 0 + i, none⟩) hb5).trans (hc5 i (by omega))
            rw [Nat.zero_add] at this
            exact this
          have HBJ := Lib.hid hBj
          clear hBj hBK hc5
          generalize ss.getD j 0 = x at *
          obtain ⟨tv, htv⟩ : ∃ tv, tv = t x := ⟨_, rfl⟩
          rw [← htv] at MKQ0 MK0 p1 p4 hst
          obtain ⟨s2, hs2⟩ : ∃ s2, s2 = s + tv := ⟨_, rfl⟩
          have hsv := HSU.out
          have e2 : IntKind.i64.wrap (s + tv) = s2 := by rw [IntKind.wrap_i64]; omega
          have HS2 : Hid (s2 = go + sumT t (ss.take (j + 1))) := Lib.hid (by omega)
          have MK := Lib.hid fun (_ : Unit) => MK0
          have MKQ := Lib.hid MKQ0
          have z2 : decide ((j : Int) < (m : Int)) = true := decide_eq_true (by omega)
          have z3 : decide (j < m) = true := decide_eq_true hlj
          have j0 : (0 : Int) ≤ (j : Int) := Int.natCast_nonneg _
          have j1 : (j : Int) < (m : Int) := by omega
          have t1 : decide (tv ≤ 0) = false := decide_eq_false (by omega)
          have t2 : decide (x < 0) = false := decide_eq_false (by omega)
          clear MK0 MKQ0 htv hs2 hsv hst p1 p2 p3 p4 p5 HSU hjs
          rcases Nat.eq_zero_or_pos j with h0 | h0
          · have t3 : decide ((0 : Int) < (j : Int)) = false := decide_eq_false (by omega)
            have t4 : decide (0 < j) = false := decide_eq_false (by omega)
            clear q3 h0
            go_wp2_with fail
            refine (MK.out ()).mono ?_
            rintro e w7 ⟨rfl, rfl⟩
            go_wp2_with fail
            go_big_quiet ((go_at_call 50; exact quiet_left (MKQ.out _)))
            go_wp2_with fail
            go_roundw
            case rel => exact ⟨j + 1, s2, by omega, by go_num, rfl, HS2, below_drewN HBJ.out _⟩
            case measure => simp [intOf]; omega
          · obtain ⟨i, hi⟩ : ∃ i, j = i + 1 := ⟨j - 1, by omega⟩
            obtain ⟨ci, hlt2⟩ := q3 i hi
            have e3 : IntKind.i64.wrap ((j : Int) - 1) = (i : Int) := by rw [IntKind.wrap_i64]; omega
            have i0 : (0 : Int) ≤ (i : Int) := Int.natCast_nonneg _
            have i1 : (i : Int) < (m : Int) := by omega
            have t3 : decide ((0 : Int) < (j : Int)) = true := decide_eq_true (by omega)
            have t4 : decide (0 < j) = true := decide_eq_true h0
            have t5 : decide (x ≤ ss.getD i 0) = false := decide_eq_false (by omega)
            generalize ss.getD i 0 = y at *
            clear q3 h0 hi hlt2
            go_wp2_with fail
            refine (MK.out ()).mono ?_
            rintro e w7 ⟨rfl, rfl⟩
            go_wp2_with fail
            go_big_quiet ((go_at_call 50; exact quiet_left (MKQ.out _)))
            go_wp2_with fail
            go_roundw
            case rel => exact ⟨j + 1, s2, by omega, by go_num, rfl, HS2, below_drewN HBJ.out _⟩
            case measure => simp [intOf]; omega
        · obtain rfl : j = m := by omega
          have z2 : decide ((j : Int) < (j : Int)) = false := decide_eq_false (by omega)
          have B6 := HT5.out.2.2.1.below hBj (Nat.le_refl _)
          have hs : s = tot := by
            have h1 := HSU.out
            rw [HM.out, List.take_length] at h1
            have := HT5.out.2.2.2
            omega
          subst hs
          have N1 := Lib.hid (ltotal_any wr B6)
          have N2 := lgroup_any wr B6 g wg
          have hgb := B6.gb g
          generalize gg g = gv at *
          replace N2 := Lib.hid N2
          have t1 : (s == s) = true := by simp
          have t2 : decide (gv ≤ s) = true := decide_eq_true hgb.2
          have t3 : decide (0 ≤ gv) = true := decide_eq_true hgb.1
          have hend : Below w.heap.size w wr := HB.out.2.2.1.trans ((HB.out.2.1.trans (HB5.out.mono HB.out.2.1.size) |>.trans (hBj.mono (Nat.le_trans HB.out.2.1.size HB5.out.size))).mono HB.out.2.2.2.1)
          have HE := Lib.hid hend
          clear B6 hgb hend hBj HSU
          go_wp2_with fail
          refine N1.out.mono ?_
          rintro e w7 ⟨rfl, rfl⟩
          go_wp2_with fail
          refine N2.out.mono ?_
          rintro e w7 ⟨rfl, rfl⟩
          go_wp2_with fail
          refine N1.out.mono ?_
          rintro e w7 ⟨rfl, rfl⟩
          go_wp2_with fail
          refine N2.out.mono ?_
          rintro e w7 ⟨rfl, rfl⟩
          go_wp2_with fail
          go_ret
          exact ⟨rfl, HE.out⟩

set_option maxRecDepth 100000 in
theorem lifted (os : Os) (started : os.Started) (H : Type) (enc : TypeId × Value → H) :
    ReturnsInHanded {} Try.checked os 13 .any (Rows.ledgerSumsSpec.pre6 enc Try.prog Try.f13 Rows.ledgerSumsRow.domain false) (Rows.ledgerSumsSpec.post enc Try.prog Try.f13 false true false false) := by
  refine returnsInHanded_of_change (C := Try.checked) own started (by as_aux_lemma => kernel_rfl) Try.func13
    (ChangeSpec.witness6 (enc := enc) (C := Try.checked) false ⟨#[], #[.slice none 0 0, .int .i64 0], []⟩ 8 (by as_aux_lemma => kernel_rfl) (by as_aux_lemma => kernel_rfl) (by as_aux_lemma => kernel_rfl) (by as_aux_lemma => kernel_rfl)) ?_
  intro W base args ds gs before hval0 hW hcnd _
  have hval : ∀ (j : Nat) t v, Try.f13.params[j]? = some t → args[j]? = some v → Value.okWide Try.prog W .any base t v := hval0
  have hW' := hW
  obtain ⟨p, q, hA0, hV, rfl, hfz, hnd⟩ := hW
  have hA : DataW.TrodAll enc Try.prog W 0 (fun _ => true) true Try.f13.params.toList args.toList ds p := hA0
  rw [Try.params13] at hA hval
  obtain ⟨v0, vs0, d0, ds0, p0, q0, hargs, rfl, rfl, h0, r0⟩ := trodAll_cons hA
  obtain ⟨v1, vs1, d1, ds1, p1, q1, rfl, rfl, rfl, h1, r1⟩ := trodAll_cons r0
  obtain ⟨rfl, rfl, rfl⟩ := trodAll_nil r1
  obtain rfl : args = #[v0, v1] := by cases args; simp_all
  obtain ⟨A0, ads0, ac0, rfl, Ud0, Xd0, Ld0⟩ := open_deeds18 (hval 0 72 v0 rfl rfl) h0
  obtain ⟨a1, rfl, b1, c1⟩ := open_i64 Try.underlying3 (hval 1 3 v1 rfl rfl) h1
  refine (walk A0 ads0 ac0 a1 b1 c1 W Ud0 Xd0 Ld0).mono fun e W' ⟨he, bel⟩ => ?_
  subst he
  exact ⟨_, rfl, law_post laidOut (by as_aux_lemma => kernel_rfl) rfl Try.underlying4 rfl (fun ds hds => by
    match ds, hds with
    | [x0, x1], _ => rfl) hW' bel⟩

theorem closed : joinedFacts Try.prog 13 Try.f13 Rows.ledgerSumsSpec Rows.ledgerSumsRow = true := by
  unfold joinedFacts
  simp only [Bool.and_eq_true]
  exact ⟨⟨⟨⟨⟨⟨⟨⟨⟨⟨⟨⟨⟨⟨⟨⟨⟨⟨⟨⟨⟨⟨⟨⟨⟨⟨⟨⟨⟨⟨⟨(by as_aux_lemma => kernel_rfl), laidOut⟩, mapsRowedT⟩, (by as_aux_lemma => kernel_rfl)⟩, (by as_aux_lemma => kernel_rfl)⟩, rfl⟩, stopsN⟩, rfl⟩, stopKnobsN⟩, (by as_aux_lemma => kernel_rfl)⟩, (by as_aux_lemma => kernel_rfl)⟩, (by as_aux_lemma => kernel_rfl)⟩, (by as_aux_lemma => kernel_rfl)⟩, (by as_aux_lemma => kernel_rfl)⟩, (by as_aux_lemma => kernel_rfl)⟩, (by as_aux_lemma => kernel_rfl)⟩, (by as_aux_lemma => kernel_rfl)⟩, (by as_aux_lemma => kernel_rfl)⟩, (by as_aux_lemma => kernel_rfl)⟩, (by as_aux_lemma => kernel_rfl)⟩, (by as_aux_lemma => kernel_rfl)⟩, (by as_aux_lemma => kernel_rfl)⟩, plainKeysT⟩, rfl⟩, stopsHeardT⟩, mayEnterT⟩, liftedT⟩, makeT⟩, (by as_aux_lemma => kernel_rfl)⟩, (by as_aux_lemma => kernel_rfl)⟩, (by as_aux_lemma => kernel_rfl)⟩, (by as_aux_lemma => kernel_rfl)⟩

theorem over : Rows.ledgerSumsRow.holds Try.pinned (OpenSpec.ofChange Rows.ledgerSumsSpec) :=
  OpenClaim.holds_of_wide 13 Try.f13 rfl rfl rfl rfl rfl rfl rfl ⟨rfl, rfl, rfl, rfl, rfl⟩ rfl rfl rfl rfl rfl (by as_aux_lemma => kernel_rfl) Try.func13 closed
    (of_decide_eq_true (by as_aux_lemma => kernel_rfl)) (by unfold Func.isWrapper; first | (rw [if_pos (by decide +kernel)]; as_aux_lemma => kernel_rfl) | (rw [if_neg (by decide +kernel)]; exact ⟨rfl, rfl⟩))
    (fun os started H enc _ => lifted os started H enc)

theorem proved : Rows.LedgerSumsSaid := over
#print axioms proved

end ledgerSums

end Go.Proofs.Ytkemhcokkaanfaa
