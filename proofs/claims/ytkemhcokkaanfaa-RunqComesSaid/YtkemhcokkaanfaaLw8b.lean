/-
  RunqAlone: one that is alone is picked, stays, and is as far as the least vruntime, whatever its weight, its pieces of time and the granularity.
-/
import Derived.Test.YtkemhcokkaanfaaLw8
namespace Go.Proofs.Ytkemhcokkaanfaa
open Go.ChangeShapes Go.WideShapes Go.ChangeAt Go.RowKit Go.Deep Go.Maps

def heavyN (w : Nat) : Nat := 64 + w % 4032
theorem heavyN_in (w : Nat) : 64 ≤ heavyN w ∧ heavyN w ≤ 4095 := by
  unfold heavyN
  have := Nat.mod_lt w (show 4032 > 0 by omega)
  omega
theorem heavy_any (n : Nat) (hn : n < 4294967296) (w : World) : Calls Try.prog 43 #[.int .u32 n] w fun e w' => e = .returned (.int .u64 (heavyN n : Nat)) ∧ w = w' := by
  have hh := heavyN_in n
  have e1 : ((64 : Int) + (n : Int) % 4032) = ((heavyN n : Nat) : Int) := by unfold heavyN; omega
  generalize heavyN n = h at *
  go_enter Try.func43, Try.ntmps43
  go_wp2_with fail
  go_ret
  exact ⟨rfl, rfl⟩

theorem sat_small2 {a b : Int} (ha : 0 ≤ a) (ha2 : a ≤ 1000000000000000) (hb : 0 ≤ b) (hb2 : b ≤ 10000000000000) : satZ a b = a + b ∧ overZ a b = false := by
  refine ⟨satZ_in a b (by omega) (by omega), ?_⟩
  unfold overZ
  exact decide_eq_false (by omega)
/-- one alone -/
def alQ (h : Nat) (cur v : Int) (rem : Nat) : QS := ⟨[⟨3, h, v, rem⟩], cur, v, false⟩
theorem al_put {h : Nat} (h1 : 64 ≤ h) (h2 : h ≤ 4095) : putC aw0 ⟨3, h, 0, 0⟩ = 0 ∧ putQ aw0 ⟨3, h, 0, 0⟩ = alQ h (-1) 0 0 := by
  have hc : putC aw0 ⟨3, h, 0, 0⟩ = 0 := by
    unfold putC aw0
    rw [if_neg (show ¬ ((3 : Int) < 0) by decide), if_neg (by simp only; omega), if_neg (by simp only; omega), if_neg (by simp), if_neg (by simp)]
  exact ⟨hc, by unfold putQ; rw [if_pos hc]; rfl⟩
theorem al_get (h : Nat) (v : Int) (rem : Nat) : (alQ h 3 v rem).get 3 = some ⟨3, h, v, rem⟩ := rfl
theorem al_pick (h : Nat) (cur v : Int) (rem : Nat) (gran : Int) (hc : cur = -1 ∨ cur = 3) : (alQ h cur v rem).pickI gran = 3 ∧ pickQ (alQ h cur v rem) gran = alQ h 3 v rem := by
  have : (alQ h cur v rem).pickI gran = 3 := by
    rcases hc with rfl | rfl <;> rfl
  exact ⟨this, by unfold pickQ; rw [this]; rfl⟩
theorem al_yield (h : Nat) (v : Int) (rem : Nat) (gran : Int) : (alQ h 3 v rem).yieldI gran = 3 ∧ yieldQ (alQ h 3 v rem) gran = alQ h 3 v rem := ⟨rfl, rfl⟩
theorem al_charge {h : Nat} {v : Int} {rem ns : Nat} (h0 : 0 ≤ v) (hv : v ≤ 1000000000000) (hn : ns ≤ 1000000000) (hr : rem < h) (hh2 : h ≤ 4095) :
    chargeC (alQ h 3 v rem) ns = 0 ∧ chargeQ (alQ h 3 v rem) ns = alQ h 3 (v + ((rem + ns * 1024) / h : Nat)) ((rem + ns * 1024) % h) := by
  have hd : (rem + ns * 1024) / h ≤ rem + ns * 1024 := Nat.div_le_self _ _
  refine ⟨by unfold chargeC; rw [if_neg (show ¬ (alQ h 3 v rem).cur = -1 by show ¬ (3 : Int) = -1; decide), if_neg (by omega)], ?_⟩
  have e1 : chargeQ (alQ h 3 v rem) ns = ({ (alQ h 3 v rem).set (charged ⟨3, h, v, rem⟩ ns) with over := false || overZ v (((rem + ns * 1024) / h : Nat) : Int) }).raise := by
    unfold chargeQ
    rw [show (alQ h 3 v rem).get (alQ h 3 v rem).cur = some ⟨3, h, v, rem⟩ from rfl]
    exact if_neg (by omega)
  rw [e1]
  unfold charged
  simp only
  generalize (rem + ns * 1024) / h = d at *
  generalize (rem + ns * 1024) % h = r2
  have hs := sat_small2 (a := v) (b := (d : Nat)) h0 (by omega) (by omega) (by omega)
  rw [hs.2, hs.1]
  show (⟨[⟨3, h, v + (d : Nat), r2⟩], 3, max v (v + (d : Nat)), false⟩ : QS) = _
  rw [Int.max_eq_right (by omega)]
  rfl

namespace runqAlone
/-- what holds when k pieces of time, all of them `all`, were served -/
structure Held (h : Nat) (k all : Nat) (cur v : Int) (rem : Nat) : Prop where
  cur : (k = 0 ∧ cur = -1) ∨ cur = 3
  v0 : 0 ≤ v
  r : rem < h
  eq : v * h + rem = 1024 * (all : Int)
  most : all ≤ k * 10000000
theorem Held.small {h k all : Nat} {cur v : Int} {rem : Nat} (H : Held h k all cur v rem) (hk : k ≤ 60) (h1 : 64 ≤ h) : v ≤ 1000000000000 := by
  have h2 := H.eq
  have h3 := H.most
  have h4 : v ≤ v * (h : Int) := by
    have := Int.mul_le_mul_of_nonneg_left (show (1 : Int) ≤ (h : Int) by omega) H.v0
    omega
  omega
theorem Held.step {h k all : Nat} {cur v : Int} {rem ns : Nat} (H : Held h k all cur v rem) (hn : ns < 10000000) (hh : 64 ≤ h) :
    Held h (k + 1) (all + ns) 3 (v + ((rem + ns * 1024) / h : Nat)) ((rem + ns * 1024) % h) := by
  have hm := Nat.mod_add_div (rem + ns * 1024) h
  refine ⟨.inr rfl, Int.add_nonneg H.v0 (Int.natCast_nonneg _), Nat.mod_lt _ (by omega), ?_, by have := H.most; omega⟩
  have h1 := H.eq
  have h2 : (((rem + ns * 1024) / h : Nat) : Int) * (h : Int) + (((rem + ns * 1024) % h : Nat) : Int) = (rem : Int) + (ns : Int) * 1024 := by
    have : (((rem + ns * 1024) % h + h * ((rem + ns * 1024) / h) : Nat) : Int) = ((rem + ns * 1024 : Nat) : Int) := by rw [hm]
    rw [Int.natCast_add, Int.natCast_mul, Int.natCast_add, Int.natCast_mul, Int.mul_comm (h : Int)] at this
    omega
  rw [Int.add_mul]
  omega
theorem Held.quot {h k all : Nat} {cur v : Int} {rem : Nat} (H : Held h k all cur v rem) (hk : k ≤ 60) (h1 : 64 ≤ h) : mdQ all 1024 h = v.toNat ∧ ((v.toNat : Nat) : Int) = v := by
  have hv : ((v.toNat : Nat) : Int) = v := Int.toNat_of_nonneg H.v0
  refine ⟨?_, hv⟩
  have h3 := H.most
  have he : v.toNat * h + rem = all * 1024 := by
    have := H.eq
    rw [← hv] at this
    have h2 : (((v.toNat * h + rem : Nat)) : Int) = ((all * 1024 : Nat) : Int) := by
      rw [Int.natCast_add, Int.natCast_mul, Int.natCast_mul]
      omega
    exact Int.ofNat.inj h2
  unfold mdQ
  rw [if_pos (by omega), ← he, Nat.mul_comm v.toNat h, Nat.mul_add_div (by omega), Nat.div_eq_of_lt H.r, Nat.add_zero]

set_option maxRecDepth 100000 in
set_option maxHeartbeats 16000000 in
theorem walk (wt : Nat) (A : Option Addr) (xs : List Nat) (c : Nat) (gran : Int) (hwt : wt < 4294967296) (hg1 : -9223372036854775808 ≤ gran) (hg2 : gran ≤ 9223372036854775807) (w : World) (hU : NumsAt .u32 w w.heap.size A xs) (hX : ∀ j, j < xs.length → xs.getD j 0 < 4294967296) (hL : xs.length ≤ 9223372036854775807) :
    Calls Try.prog 10 #[.int .u32 wt, .slice A xs.length c, .int .i64 gran] w fun e w' => e = .returned (.bool true) ∧ Below w.heap.size w w' := by
  have MH := Lib.hid fun W => heavy_any wt hwt W
  have hh := heavyN_in wt
  generalize heavyN wt = h at *
  have HU := Lib.hid hU
  have HX := Lib.hid hX
  clear hU hX
  obtain ⟨n, hn⟩ : ∃ n, n = xs.length := ⟨_, rfl⟩
  rw [← hn] at hL ⊢
  have HN := Lib.hid hn
  clear hn
  have hal := Lib.hid (al_put hh.1 hh.2)
  go_enter Try.func10, Try.ntmps10
  go_wp2_with fail
  refine (awake08 w).mono ?_
  rintro r w1 ⟨rfl, hb1⟩
  go_wp2_with fail
  refine (qn_new w1).mono ?_
  rintro r w2 ⟨q, rfl, H2⟩
  have MP : Hid (∀ W, W = w2 → Calls Try.prog 32 #[.pointer (some ⟨q, 0, none⟩), .agg #[.int .i64 3, .int .u64 (h : Nat), .int .i64 0, .int .u64 0]] W fun r w' => r = .returned (.int .i64 0) ∧ Hid (QNew w1 w' q (alQ h (-1) 0 0) 1001)) := Lib.hid fun W hW => by
    subst hW
    have := qn_put (e := ⟨3, h, 0, 0⟩) (show QNew w1 W q aw0 1 from H2.out.1) (by decide) (show (-9223372036854775808 : Int) ≤ 3 by decide) (show (3 : Int) ≤ 9223372036854775807 by decide) (show (-9223372036854775808 : Int) ≤ 0 by decide) (show (0 : Int) ≤ 9223372036854775807 by decide) (by show h < _; omega) (show 0 < 18446744073709551616 by decide)
    rw [hal.out.1, hal.out.2] at this
    exact this
  go_wp2_with (first
    | (go_at_call 43; refine (MH.out _).mono ?_; rintro r w' ⟨rfl, rfl⟩)
    | (go_at_call 32; refine (MP.out _ rfl).mono ?_; rintro r w3 ⟨rfl, H3⟩))
  have HB1 := Lib.hid hb1
  clear hb1 H2 MP
  go_loopw [9, 10] (fun s9 s10 wr => ∃ (k all : Nat) (cur v : Int) (rem : Nat), k ≤ n ∧ k ≤ 60 ∧ s9 = .int .u64 all ∧ s10 = .int .i64 k ∧ Hid (Held h k all cur v rem) ∧ Hid (QNew w1 wr q (alQ h cur v rem) (1001 + 1000 * (k : Nat)))) (fun _ s10 _ => n - (intOf s10).toNat)
  case atStart => exact ⟨0, 0, -1, 0, 0, by omega, by omega, rfl, rfl, ⟨.inl ⟨rfl, rfl⟩, by omega, by omega, by simp, by omega⟩, by simpa using H3⟩
  case round =>
    obtain ⟨k, all, cur, v, rem, hk, hk60, rfl, rfl, HH, HQ⟩ := hrel
    clear H3
    have hsm := HH.out.small hk60 hh.1
    have hv0 := HH.out.v0
    have hall := HH.out.most
    by_cases hgo : k < n ∧ k < 60
    · obtain ⟨hlt, h60⟩ := hgo
      obtain ⟨b, off, rfl, hb, hc⟩ := HU.out.at_ (by rw [← HN.out]; omega)
      have hBw := HB1.out.trans (HQ.out.base.mono HB1.out.size)
      have hcell : wr.cell? ⟨b, off + k, none⟩ = some (.int .u32 ((xs.getD k 0 : Nat) : Int)) := (hBw.cell (p := ⟨b, off + k, none⟩) hb).trans (hc k (by rw [← HN.out]; exact hlt))
      have hxb := HX.out k (by rw [← HN.out]; exact hlt)
      clear hc hBw
      generalize xs.getD k 0 = x at *
      obtain ⟨ns, hns⟩ : ∃ ns, ns = x % 10000000 := ⟨_, rfl⟩
      have hnb : ns < 10000000 := by rw [hns]; exact Nat.mod_lt _ (by omega)
      have e1 : (x : Int) % 10000000 = (ns : Int) := by rw [hns]; rfl
      have e2 : IntKind.u64.wrap ((all : Int) + (ns : Int)) = ((all + ns : Nat) : Int) := by rw [IntKind.wrap_u64]; omega
      have HST := Lib.hid (HH.out.step hnb hh.1)
      have z1 : decide ((k : Int) < (n : Int)) = true := decide_eq_true (by omega)
      have z2 : decide (k < n) = true := decide_eq_true hlt
      have z3 : decide ((k : Int) < 60) = true := decide_eq_true (by omega)
      have z4 : decide (k < 60) = true := decide_eq_true h60
      have j0 : (0 : Int) ≤ (k : Int) := Int.natCast_nonneg _
      have j1 : (k : Int) < (n : Int) := by omega
      have hap := al_pick h cur v rem gran (HH.out.cur.imp (fun h => h.2) id)
      have hac := al_charge (h := h) (v := v) (rem := rem) (ns := ns) hv0 hsm (by omega) HH.out.r hh.2
      have M1 : Hid (Calls Try.prog 44 #[.pointer (some ⟨q, 0, none⟩), .int .i64 gran] wr fun e w' => e = .returned (.int .i64 3) ∧ Hid (QNew w1 w' q (alQ h 3 v rem) (1001 + 1000 * (k : Nat)))) := Lib.hid (by
        have := qn_pick HQ.out gran hg1 hg2
        rw [hap.1, hap.2] at this
        exact this)
      have M2 : Hid (∀ W, QNew w1 W q (alQ h 3 v rem) (1001 + 1000 * (k : Nat)) → Calls Try.prog 34 #[.pointer (some ⟨q, 0, none⟩), .int .u64 (ns : Nat)] W fun r w' => r = .returned (.int .i64 0) ∧ Hid (QNew w1 w' q (alQ h 3 (v + ((rem + ns * 1024) / h : Nat)) ((rem + ns * 1024) % h)) (1001 + 1000 * (k : Nat) + 1000))) := Lib.hid fun W hW => by
        have := qn_charge hW (by omega) ns (by omega)
        rw [hac.1, hac.2] at this
        exact this
      have M3 : Hid (∀ W v' r' K, QNew w1 W q (alQ h 3 v' r') K → Calls Try.prog 45 #[.pointer (some ⟨q, 0, none⟩), .int .i64 gran] W fun e w' => e = .returned (.int .i64 3) ∧ Hid (QNew w1 w' q (alQ h 3 v' r') K)) := Lib.hid fun W v' r' K hW => by
        have := qn_yield hW gran hg1 hg2
        rw [(al_yield h v' r' gran).1, (al_yield h v' r' gran).2] at this
        exact this
      clear hap hac hns hsm hv0
      generalize hvv : v + ((rem + ns * 1024) / h : Nat) = v2 at *
      generalize hrr : (rem + ns * 1024) % h = r2 at *
      clear hvv hrr
      go_wp2_with (first
        | (go_at_call 44; refine M1.out.mono ?_; rintro r w5 ⟨rfl, H5⟩)
        | (go_at_call 34; refine (M2.out _ H5.out).mono ?_; rintro r w6 ⟨rfl, H6⟩)
        | (go_at_call 45; refine (M3.out _ _ _ _ H6.out).mono ?_; rintro r w7 ⟨rfl, H7⟩))
      go_roundw
      case rel => exact ⟨k + 1, all + ns, 3, v2, r2, by omega, by omega, rfl, by go_num, HST, by
        have := H7.out
        rw [show (1001 + 1000 * ((k : Nat) : Int) + 1000) = 1001 + 1000 * (((k + 1 : Nat)) : Int) by omega] at this
        exact this⟩
      case measure => simp [intOf]; omega
    · have hex : (decide ((k : Int) < (n : Int)) = true ∧ decide (k < n) = true ∧ decide ((k : Int) < 60) = false) ∨ (decide ((k : Int) < (n : Int)) = false ∧ decide (k < n) = false) := by
        by_cases hlt : k < n
        · exact .inl ⟨decide_eq_true (by omega), decide_eq_true hlt, decide_eq_false (by omega)⟩
        · exact .inr ⟨decide_eq_false (by omega), decide_eq_false hlt⟩
      have hq := HH.out.quot hk60 hh.1
      obtain ⟨vn, hvn⟩ : ∃ vn, vn = v.toNat := ⟨_, rfl⟩
      rw [← hvn] at hq
      have hvb : vn ≤ 1000000000000 := by omega
      obtain ⟨hq1, rfl⟩ := hq
      have e5 : wrap64 (vn : Int) = (vn : Int) := by unfold wrap64; omega
      have e6 : IntKind.i64.wrap (vn : Int) = (vn : Int) := by rw [IntKind.wrap_i64]; omega
      have MM : Hid (∀ W, Calls Try.prog 46 #[.int .u64 all, .int .u64 1024, .int .u64 (h : Nat)] W fun r w5 => ∃ a b, r = .returned (.tuple #[.int .u64 (vn : Nat), a, b]) ∧ Below W.heap.size W w5) := Lib.hid fun W => (mulDiv_any all 1024 h (by omega) (by omega) (by omega) W).mono fun r w5 hp => ⟨_, _, by rw [← hq1]; exact hp.1, hp.2⟩
      have ME : Hid (∀ W, Below wr.heap.size wr W → Calls Try.prog 33 #[.pointer (some ⟨q, 0, none⟩)] W fun r w' => ∃ g c, r = .returned (.slice (some ⟨g, 0, none⟩) 1 c) ∧ w'.cell? ⟨g, 2, none⟩ = some (.int .i64 (vn : Nat)) ∧ Hid (QNew w1 w' q (alQ h cur (vn : Nat) rem) (1001 + 1000 * (k : Nat)))) := Lib.hid fun W hW => (qn_ents (HQ.out.below hW)).mono fun r w' hp => by
        obtain ⟨u, hr, hO⟩ := hp
        have ee : (alQ h cur (vn : Nat) rem).ents = [⟨3, h, (vn : Nat), rem⟩] := rfl
        have hrow := hO.out.1
        rw [ee] at hrow
        rcases row_cells hrow with ⟨_, h0⟩ | ⟨g, c, rfl, _, _, _, hc⟩
        · simp at h0
        · exact ⟨g, c, hr, (hc 2 (by simp)).trans rfl, hO.out.2.2⟩
      have hload : loadL (alQ h cur (vn : Nat) rem).L = h := by simp [alQ, loadL]
      have MN : Hid (∀ W, QNew w1 W q (alQ h cur (vn : Nat) rem) (1001 + 1000 * (k : Nat)) → Calls Try.prog 35 #[.pointer (some ⟨q, 0, none⟩)] W fun e w' => e = .returned (.int .i64 (vn : Nat)) ∧ W = w') := Lib.hid fun W hW => qn_min hW
      have ML : Hid (∀ W, QNew w1 W q (alQ h cur (vn : Nat) rem) (1001 + 1000 * (k : Nat)) → Calls Try.prog 47 #[.pointer (some ⟨q, 0, none⟩)] W fun e w' => e = .returned (.int .u64 (h : Nat)) ∧ W = w') := Lib.hid fun W hW => by
        have := qn_load hW
        rw [hload] at this
        exact this
      clear hload hvn hq1 hsm hv0 hall HH HU HX HN
      rcases hex with ⟨z1, z2, z3⟩ | ⟨z1, z2⟩
      all_goals
        go_wp2_with (first
          | (go_at_call 43; refine (MH.out _).mono ?_; rintro r w' ⟨rfl, rfl⟩)
          | (go_at_call 46; refine (MM.out _).mono ?_; rintro r w5 ⟨a, b, rfl, hb5⟩)
          | (go_at_call 33; refine (ME.out _ hb5).mono ?_; rintro r w6 ⟨g, c6, rfl, x2, H6⟩)
          | (go_at_call 35; refine (MN.out _ H6.out).mono ?_; rintro r w7 ⟨rfl, rfl⟩)
          | (go_at_call 47; refine (ML.out _ H6.out).mono ?_; rintro r w7 ⟨rfl, rfl⟩))
        go_ret
        exact ⟨rfl, HB1.out.trans (H6.out.base.mono HB1.out.size)⟩

set_option maxRecDepth 100000 in
theorem lifted (os : Os) (started : os.Started) (H : Type) (enc : TypeId × Value → H) :
    ReturnsInHanded {} Try.checked os 10 .any (Rows.runqAloneSpec.pre6 enc Try.prog Try.f10 Rows.runqAloneRow.domain false) (Rows.runqAloneSpec.post enc Try.prog Try.f10 false true false false) := by
  refine returnsInHanded_of_change (C := Try.checked) own started (by as_aux_lemma => kernel_rfl) Try.func10
    (ChangeSpec.witness6 (enc := enc) (C := Try.checked) false ⟨#[], #[.int .u32 0, .slice none 0 0, .int .i64 0], []⟩ 8 (by as_aux_lemma => kernel_rfl) (by as_aux_lemma => kernel_rfl) (by as_aux_lemma => kernel_rfl) (by as_aux_lemma => kernel_rfl)) ?_
  intro W base args ds gs before hval0 hW hcnd _
  have hval : ∀ (j : Nat) t v, Try.f10.params[j]? = some t → args[j]? = some v → Value.okWide Try.prog W .any base t v := hval0
  have hW' := hW
  obtain ⟨p, q, hA0, hV, rfl, hfz, hnd⟩ := hW
  have hA : DataW.TrodAll enc Try.prog W 0 (fun _ => true) true Try.f10.params.toList args.toList ds p := hA0
  rw [Try.params10] at hA hval
  obtain ⟨v0, vs0, d0, ds0, p0, q0, hargs, rfl, rfl, h0, r0⟩ := trodAll_cons hA
  obtain ⟨v1, vs1, d1, ds1, p1, q1, rfl, rfl, rfl, h1, r1⟩ := trodAll_cons r0
  obtain ⟨v2, vs2, d2, ds2, p2, q2, rfl, rfl, rfl, h2, r2⟩ := trodAll_cons r1
  obtain ⟨rfl, rfl, rfl⟩ := trodAll_nil r2
  obtain rfl : args = #[v0, v1, v2] := by cases args; simp_all
  obtain ⟨a0, rfl, b0⟩ := open_u32 Try.underlying27 (hval 0 27 v0 rfl rfl) h0
  obtain ⟨A1, xs1, c1, rfl, U1, X1, L1⟩ := open_u32s Try.underlying28 Try.underlying27 (by kernel_rfl) (hval 1 28 v1 rfl rfl) h1
  obtain ⟨a2, rfl, b2, c2⟩ := open_i64 Try.underlying2 (hval 2 2 v2 rfl rfl) h2
  refine (walk a0 A1 xs1 c1 a2 b0 b2 c2 W U1 X1 L1).mono fun e W' ⟨he, bel⟩ => ?_
  subst he
  exact ⟨_, rfl, law_post laidOut (by as_aux_lemma => kernel_rfl) rfl Try.underlying4 rfl (fun ds hds => by
    match ds, hds with
    | [x0, x1, x2], _ => rfl) hW' bel⟩

theorem closed : joinedFacts Try.prog 10 Try.f10 Rows.runqAloneSpec Rows.runqAloneRow = true := by
  unfold joinedFacts
  simp only [Bool.and_eq_true]
  exact ⟨⟨⟨⟨⟨⟨⟨⟨⟨⟨⟨⟨⟨⟨⟨⟨⟨⟨⟨⟨⟨⟨⟨⟨⟨⟨⟨⟨⟨⟨⟨(by as_aux_lemma => kernel_rfl), laidOut⟩, mapsRowedT⟩, (by as_aux_lemma => kernel_rfl)⟩, (by as_aux_lemma => kernel_rfl)⟩, rfl⟩, stopsN⟩, rfl⟩, stopKnobsN⟩, (by as_aux_lemma => kernel_rfl)⟩, (by as_aux_lemma => kernel_rfl)⟩, (by as_aux_lemma => kernel_rfl)⟩, (by as_aux_lemma => kernel_rfl)⟩, (by as_aux_lemma => kernel_rfl)⟩, (by as_aux_lemma => kernel_rfl)⟩, (by as_aux_lemma => kernel_rfl)⟩, (by as_aux_lemma => kernel_rfl)⟩, (by as_aux_lemma => kernel_rfl)⟩, (by as_aux_lemma => kernel_rfl)⟩, (by as_aux_lemma => kernel_rfl)⟩, (by as_aux_lemma => kernel_rfl)⟩, (by as_aux_lemma => kernel_rfl)⟩, plainKeysT⟩, rfl⟩, stopsHeardT⟩, mayEnterT⟩, liftedT⟩, makeT⟩, (by as_aux_lemma => kernel_rfl)⟩, (by as_aux_lemma => kernel_rfl)⟩, (by as_aux_lemma => kernel_rfl)⟩, (by as_aux_lemma => kernel_rfl)⟩

theorem over : Rows.runqAloneRow.holds Try.pinned (OpenSpec.ofChange Rows.runqAloneSpec) :=
  OpenClaim.holds_of_wide 10 Try.f10 rfl rfl rfl rfl rfl rfl rfl ⟨rfl, rfl, rfl, rfl, rfl⟩ rfl rfl rfl rfl rfl (by as_aux_lemma => kernel_rfl) Try.func10 closed
    (of_decide_eq_true (by as_aux_lemma => kernel_rfl)) (by unfold Func.isWrapper; first | (rw [if_pos (by decide +kernel)]; as_aux_lemma => kernel_rfl) | (rw [if_neg (by decide +kernel)]; exact ⟨rfl, rfl⟩))
    (fun os started H enc _ => lifted os started H enc)

theorem proved : Rows.RunqAloneSaid := over
#print axioms proved

end runqAlone

end Go.Proofs.Ytkemhcokkaanfaa
