/-
  RunqDrops, the walk: more than 40 came in.
-/
import Derived.Test.YtkemhcokkaanfaaLw8d
import Derived.Deep.RegionHeld3
namespace Go.Proofs.Ytkemhcokkaanfaa
open Go.ChangeShapes Go.WideShapes Go.ChangeAt Go.RowKit Go.Deep Go.Maps

namespace runqDrops
set_option maxRecDepth 100000 in
set_option maxHeartbeats 400000000 in
theorem walk_many (A : Option Addr) (es : List En) (c wh : Nat) (hwh : wh < 256) (hmany : 40 < es.length) (w : World) (hU : RowE w w.heap.size A es) (hX : ∀ e ∈ es, e.num) (hL : es.length ≤ 9223372036854775807) :
    Calls Try.prog 8 #[.slice A es.length c, .int .u8 wh] w fun r w' => r = .returned (.bool true) ∧ Below w.heap.size w w' := by
  have HU := Lib.hid hU
  have HX := Lib.hid hX
  clear hU hX
  obtain ⟨n, hn⟩ : ∃ n, n = es.length := ⟨_, rfl⟩
  rw [← hn] at hL ⊢
  have HN := Lib.hid hn
  clear hn
  go_enter Try.func8, Try.ntmps8
  go_wp2_with fail
  refine (awake08 w).mono ?_
  rintro r w1 ⟨rfl, hb1⟩
  go_wp2_with fail
  refine (qn_new w1).mono ?_
  rintro r w2 ⟨q, rfl, H2⟩
  have HB1 := Lib.hid hb1
  have H0 : Hid (QNew w1 w2 q (putN es 0) 1) := Lib.hid H2.out.1
  clear hb1 H2
  go_wp2_with fail
  go_loopw [7] (fun s7 wr => ∃ k : Nat, k ≤ n ∧ k ≤ 40 ∧ s7 = .int .i64 k ∧ Hid (QNew w1 wr q (putN es k) (1 + 1000 * (k : Nat)))) (fun s7 _ => n - (intOf s7).toNat)
  case atStart => exact ⟨0, by omega, by omega, rfl, by simpa using H0⟩
  case round =>
    obtain ⟨k, hk, hk40, rfl, HQ⟩ := hrel
    clear H0
    by_cases hgo : k < n ∧ k < 40
    · obtain ⟨hlt, h40⟩ := hgo
      have hk1 : k < es.length := by rw [← HN.out]; exact hlt
      obtain ⟨b, off, rfl, hb, hc⟩ := HU.out.at_ (by omega)
      have hBw := HB1.out.trans (HQ.out.base.mono HB1.out.size)
      obtain ⟨x0, x1, x2, x3⟩ := (hc k hk1).below hBw hb
      have hen := HX.out (es.getD k En.nil) (by rw [getD_at es hk1]; exact List.getElem_mem _)
      have hsucc := putN_succ es hk1
      clear hc hBw hk1
      have HS := Lib.hid hsucc
      clear hsucc
      generalize es.getD k En.nil = e at *
      have MP : Hid (Calls Try.prog 32 #[.pointer (some ⟨q, 0, none⟩), .agg #[.int .i64 e.id, .int .u64 e.wt, .int .i64 e.v, .int .u64 e.rem]] wr fun r w' => ∃ z, r = .returned (.int .i64 z) ∧ Hid (QNew w1 w' q (putN es (k + 1)) (1 + 1000 * ((k + 1 : Nat) : Int)))) := Lib.hid <| (qn_put HQ.out (by omega) e hen.i1 hen.i2 hen.v1 hen.v2 hen.w2 hen.r2).mono fun r w' hp => ⟨_, hp.1, by
        have := hp.2.out
        rw [← HS.out, show (1 + 1000 * ((k : Nat) : Int) + 1000) = 1 + 1000 * (((k + 1 : Nat)) : Int) by omega] at this
        exact this⟩
      have z1 : decide ((k : Int) < (n : Int)) = true := decide_eq_true (by omega)
      have z2 : decide (k < n) = true := decide_eq_true hlt
      have z3 : decide ((k : Int) < 40) = true := decide_eq_true (by omega)
      have z4 : decide (k < 40) = true := decide_eq_true h40
      have j0 : (0 : Int) ≤ (k : Int) := Int.natCast_nonneg _
      have j1 : (k : Int) < (n : Int) := by omega
      clear HS hen
      go_wp2_with (go_at_call 32; refine MP.out.mono ?_; rintro r w5 ⟨z, rfl, H5⟩)
      go_roundw
      case rel => exact ⟨k + 1, by omega, by omega, by go_num, H5⟩
      case measure => simp [intOf]; omega
    · have hkn : k < n := by have := HN.out; omega
      have z1 : decide ((k : Int) < (n : Int)) = true := decide_eq_true (by omega)
      have z2 : decide (k < n) = true := decide_eq_true hkn
      have z3 : decide ((k : Int) < 40) = false := decide_eq_false (by omega)
      have hcur := putN_cur es k
      have hok := HQ.out.ok
      have hnc := none_charge hok hcur
      generalize putN es k = X at *
      obtain ⟨K, hK⟩ : ∃ K : Int, K = 1 + 1000 * (k : Nat) := ⟨_, rfl⟩
      rw [← hK] at HQ
      have hKb : K ≤ 1000000 := by omega
      have HS0 : QSafe w1 wr q X K [] := by
        obtain ⟨F, h1, h2, h3⟩ := HQ.out.ex
        exact ⟨F, h1, h2, h3, fun p hp => by simp at hp⟩
      have hlm : X.ents.length ≤ 128 := by rw [ents_len]; exact Nat.le_trans (ksOf_len _) hok.len
      have hbm := HB1.out.size
      have ME := Lib.hid (qs_ents HS0)
      obtain ⟨m, hm⟩ : ∃ m, m = X.ents.length := ⟨_, rfl⟩
      rw [← hm] at hlm ME
      have HMM := Lib.hid hm
      have HC := Lib.hid hnc
      have HOK := Lib.hid hok
      have HCUR := Lib.hid hcur
      clear hK hcur hok hnc HS0 hm
      skip
      all_goals
        go_wp2_with fail
        refine ME.out.mono ?_
        rintro r w3 ⟨A1, c1, rfl, HO⟩
        by_cases hm0 : m = 0
        · subst hm0
          have MC := Lib.hid (qs_charge HO.out.2.2.1 (by omega) 1 (by decide))
          rw [HC.out.1, HC.out.2] at MC
          go_wp2_with (go_at_call 34; refine MC.out.mono ?_; rintro r w4 ⟨rfl, H4⟩)
          go_ret
          exact ⟨rfl, HB1.out.trans (H4.out.new.base.mono hbm)⟩
        · obtain ⟨kk, hkk⟩ : ∃ kk, kk = wh % m := ⟨_, rfl⟩
          have hkm : kk < m := by rw [hkk]; exact Nat.mod_lt _ (by omega)
          have e1 : (wh : Int) % (m : Int) = (kk : Int) := by rw [hkk]; rfl
          have e2 : Int.tmod (wh : Int) (m : Int) = (kk : Int) := by rw [Int.tmod_eq_emod_of_nonneg (by omega)]; exact e1
          have hkx : kk < X.ents.length := by rw [← HMM.out]; exact hkm
          obtain ⟨b, off, rfl, hb, hc⟩ := HO.out.1.at_ (by omega)
          have hat := hc kk hkx
          obtain ⟨e, he, _, hee⟩ := HOK.out.ents_at (j := kk) (by rw [← ents_len]; exact hkx)
          have hge : X.ents.getD kk En.nil = e := by rw [List.getD_eq_getElem?_getD, hee]; rfl
          rw [hge] at hat
          have heo := HOK.out.ents e he
          have hag := again HOK.out he
          have hget := HOK.out.get he
          have hen : e.num := ⟨by have := heo.i1; omega, heo.i2, heo.v1, heo.v2, by have := heo.w2; omega, by have := heo.r; have := heo.w2; omega⟩
          have HS3 := HO.out.2.2.2.1 ⟨b, off, none⟩ rfl
          have hrow3 := HO.out.1
          -- what is kept of the row
          have HROW : Hid (∀ W, W.heap[b]? = w3.heap[b]? → EntAt W b (off + kk * 4) e ∧ RowE W w3.heap.size (some ⟨b, off, none⟩) X.ents) := Lib.hid fun W hW => ⟨EntAt.of hat hW, .inr ⟨b, off, rfl, hb, fun j hj => EntAt.of (hc j hj) hW⟩⟩
          obtain ⟨ob, hob⟩ : ∃ ob, ob = w3.heap[b]? := ⟨_, rfl⟩
          rw [← hob] at HROW
          have HS3 : Hid (QSafe w1 w3 q X K [(b, ob)]) := Lib.hid (by rw [hob]; exact HS3)
          have hz3 := HO.out.2.2.2.2.size
          have MC := Lib.hid (qs_charge HS3.out (by omega) 1 (by decide))
          rw [HC.out.1, HC.out.2] at MC
          have MC2 : Hid (Calls Try.prog 34 #[.pointer (some ⟨q, 0, none⟩), .int .u64 1] w3 fun r w' => r = .returned (.int .i64 7) ∧ EntAt w' b (off + kk * 4) e ∧ Hid (QSafe w1 w' q X (K + 1000) [(b, ob)])) := Lib.hid (MC.out.mono fun r w' hp => ⟨hp.1, (HROW.out w' (hp.2.out.keep (p := (b, ob)) (by simp))).1, hp.2⟩)
          have HM : Hid (∀ W, QSafe w1 W q X (K + 1000) [(b, ob)] → Calls Try.prog 35 #[.pointer (some ⟨q, 0, none⟩)] W fun r w' => r = .returned (.int .i64 X.mn) ∧ W = w') := Lib.hid fun W hW => qn_min hW.new
          have HD1 : Hid (∀ W, QSafe w1 W q X (K + 1000) [(b, ob)] → Calls Try.prog 36 #[.pointer (some ⟨q, 0, none⟩), .int .i64 e.id] W fun r w' => r = .returned (.tuple #[.agg #[.int .i64 e.id, .int .u64 e.wt, .int .i64 e.v, .int .u64 e.rem], .int .i64 0]) ∧ EntAt w' b (off + kk * 4) e ∧ b < w'.heap.size ∧ Hid (QSafe w1 w' q (dropQ X e.id) (K + 2000) [(b, ob)])) := Lib.hid fun W hW => by
            have := qs_drop hW (by omega) e.id hen.i1 hen.i2
            rw [hget, show K + 1000 + 1000 = K + 2000 by omega] at this
            exact this.mono fun r w' hp => ⟨hp.1, (HROW.out w' (hp.2.out.keep (p := (b, ob)) (by simp))).1, hp.2.out.lt (p := (b, ob)) (by simp), hp.2⟩
          have HD2 : Hid (∀ W B, QSafe w1 W q (dropQ X e.id) (K + 2000) B → Calls Try.prog 36 #[.pointer (some ⟨q, 0, none⟩), .int .i64 e.id] W fun r w' => r = .returned (.tuple #[.agg #[.int .i64 0, .int .u64 0, .int .i64 0, .int .u64 0], .int .i64 12]) ∧ Hid (QSafe w1 w' q (dropQ X e.id) (K + 3000) B)) := Lib.hid fun W B hW => by
            have := qs_drop hW (by omega) e.id hen.i1 hen.i2
            rw [hag.2.1, hag.2.2.1, show K + 2000 + 1000 = K + 3000 by omega] at this
            exact this
          obtain ⟨X2, hX2⟩ : ∃ X2, X2 = dropQ X e.id := ⟨_, rfl⟩
          rw [← hX2] at hag HD1 HD2
          obtain ⟨m', hm'⟩ : ∃ m', m' = X2.ents.length := ⟨_, rfl⟩
          have hmm : m' + 1 = m := by rw [hm', HMM.out]; exact hag.2.2.2.1
          have e3 : IntKind.i64.wrap ((m : Int) - 1) = (m' : Int) := by rw [IntKind.wrap_i64]; omega
          have HE2 : Hid (∀ W B, QSafe w1 W q X2 (K + 3000) B → Calls Try.prog 33 #[.pointer (some ⟨q, 0, none⟩)] W fun r w' => ∃ A c, r = .returned (.slice A m' c) ∧ Hid (QSafe w1 w' q X2 (K + 3000) B)) := Lib.hid fun W B hW => by
            have := qs_ents hW
            rw [← hm'] at this
            exact this.mono fun r w' hp => by
              obtain ⟨A, c, hr, hO⟩ := hp
              exact ⟨A, c, hr, hO.out.2.2.1⟩
          obtain ⟨lo, hlo⟩ : ∃ lo, lo = X2.mn := ⟨_, rfl⟩
          have HM2 : Hid (∀ W B, QSafe w1 W q X2 (K + 3000) B → Calls Try.prog 35 #[.pointer (some ⟨q, 0, none⟩)] W fun r w' => r = .returned (.int .i64 lo) ∧ W = w') := Lib.hid fun W B hW => by
            have := qn_min hW.new
            rw [← hlo] at this
            exact this
          have z9 : decide (X.mn ≤ lo) = true := decide_eq_true (by rw [hlo]; exact hag.2.2.2.2.1)
          have HP2 : Hid (∀ W B, QSafe w1 W q X2 (K + 3000) B → Calls Try.prog 32 #[.pointer (some ⟨q, 0, none⟩), .agg #[.int .i64 e.id, .int .u64 e.wt, .int .i64 e.v, .int .u64 e.rem]] W fun r w' => r = .returned (.int .i64 0) ∧ Hid (QSafe w1 w' q (putQ X2 e) (K + 4000) B)) := Lib.hid fun W B hW => by
            have := qs_put hW (by omega) e hen
            rw [hag.2.2.2.2.2.1, show K + 3000 + 1000 = K + 4000 by omega] at this
            exact this
          have HF : Hid (∀ (w5 W : World) (Y : QS) (K : Int), QSafe w1 W q Y K [(w5.heap.size, (w5.alloc (.cells (ecells e) 52)).heap[w5.heap.size]?), (b, ob)] → (EntAt W b (off + kk * 4) e ∧ b < W.heap.size) ∧ (EntAt W w5.heap.size 0 e ∧ w5.heap.size < W.heap.size) ∧ RowE W W.heap.size (some ⟨b, off, none⟩) X.ents) := Lib.hid fun w5 W X' K' hW => by
            have h1 := HROW.out W (hW.keep (p := (b, ob)) (by simp))
            have h2 : Blk W w5.heap.size (ecells e) 52 := (Blk.new w5 (ecells e) 52).of (hW.keep (p := (w5.heap.size, (w5.alloc (.cells (ecells e) 52)).heap[w5.heap.size]?)) (by simp))
            have hbl := hW.lt (p := (b, ob)) (by simp)
            have h5l := h2.lt
            have h1r := h1.2
            rcases h1r with h0 | ⟨b2, o2, hb2, _, hcc⟩
            · exact ⟨⟨h1.1, hbl⟩, ⟨⟨Blk.cell h2 0, Blk.cell h2 1, Blk.cell h2 2, Blk.cell h2 3⟩, h5l⟩, .inl h0⟩
            · exact ⟨⟨h1.1, hbl⟩, ⟨⟨Blk.cell h2 0, Blk.cell h2 1, Blk.cell h2 2, Blk.cell h2 3⟩, h5l⟩, .inr ⟨b2, o2, hb2, by
                injection hb2 with hb2
                injection hb2 with hb2
                rw [← hb2]; exact hbl, hcc⟩⟩
          have HE3 : Hid (∀ W B, QSafe w1 W q (putQ X2 e) (K + 4000) B → Calls Try.prog 33 #[.pointer (some ⟨q, 0, none⟩)] W fun r w' => ∃ A c, r = .returned (.slice A m c) ∧ Hid (RowE w' w'.heap.size A X.ents ∧ QSafe w1 w' q (putQ X2 e) (K + 4000) B)) := Lib.hid fun W B hW => by
            have := qs_ents hW
            rw [hag.2.2.2.2.2.2, ← HMM.out] at this
            exact this.mono fun r w' hp => by
              obtain ⟨A, c, hr, hO⟩ := hp
              exact ⟨A, c, hr, hO.out.1, hO.out.2.2.1⟩
          have HSM : Hid (∀ W A c A' c', RowE W W.heap.size A X.ents → RowE W W.heap.size A' X.ents → Calls Try.prog 37 #[.slice A m c, .slice A' m c'] W fun r w' => r = .returned (.bool true) ∧ Below W.heap.size W w') := Lib.hid fun W A c A' c' h1 h2 => by
            have := rsame_any A A' X.ents c c' W h1 h2 (by rw [← HMM.out]; omega)
            rw [← HMM.out] at this
            exact this
          clear hag hm' hlo hX2
          clear hc hat hge hee hget hkk
          clear HS3 MC hob
          have m1 : (m == 0) = false := beq_eq_false_iff_ne.2 hm0
          have k0 : (0 : Int) ≤ (kk : Int) := Int.natCast_nonneg _
          have k1 : (kk : Int) < (m : Int) := by omega
          have k2 : decide (kk < m) = true := decide_eq_true hkm
          go_wp2_with (first
            | (go_at_call 34; refine MC2.out.mono ?_; rintro r w4 ⟨rfl, ⟨hr4, hr4b, hr4c, hr4d⟩, H4⟩)
            | (go_at_call 35; refine (HM.out _ H4.out).mono ?_; rintro r w' ⟨rfl, rfl⟩)
            | (go_at_call 36; refine (HD1.out _ H4.out).mono ?_; rintro r w5 ⟨rfl, ⟨hr5, hr5b, hr5c, hr5d⟩, hl5, H5⟩)
            | (go_at_call 36; refine (HD2.out _ _ (H5.out.alloc _)).mono ?_; rintro r w6 ⟨rfl, H6⟩; obtain ⟨⟨⟨x0, x1, x2, x3⟩, xl⟩, ⟨⟨y0, y1, y2, y3⟩, yl⟩, _⟩ := HF.out _ _ _ _ H6.out)
            | (go_at_call 33; refine (HE2.out _ _ (H6.out.below ((Below.refl _ _).alloc (Nat.le_refl _) _))).mono ?_; rintro r w7 ⟨A7, c7, rfl, H7⟩; obtain ⟨⟨⟨x0, x1, x2, x3⟩, xl⟩, ⟨⟨y0, y1, y2, y3⟩, yl⟩, _⟩ := HF.out _ _ _ _ H7.out)
            | (go_at_call 35; refine (HM2.out _ _ H7.out).mono ?_; rintro r w' ⟨rfl, rfl⟩)
            | (go_at_call 32; refine (HP2.out _ _ H7.out).mono ?_; rintro r w8 ⟨rfl, H8⟩; obtain ⟨⟨⟨x0, x1, x2, x3⟩, xl⟩, ⟨⟨y0, y1, y2, y3⟩, yl⟩, _⟩ := HF.out _ _ _ _ H8.out))
          have HEND := Lib.hid (And.intro HB1.out hbm)
          clear HROW MC2 HM HD1 HD2 HE2 HM2 HP2 HU HX HQ HC HOK HCUR HN H7 H6 H5 H4 ME HO HB1 hr4 hr4b hr4c hr4d hr5 hr5b hr5c hr5d
          go_region_held3 (fun W => W.cell? ⟨b, off + kk * 4, none⟩ = some (.int .i64 e.id) ∧ W.cell? ⟨b, off + kk * 4 + 1, none⟩ = some (.int .u64 e.wt) ∧ W.cell? ⟨b, off + kk * 4 + 2, none⟩ = some (.int .i64 e.v) ∧ W.cell? ⟨b, off + kk * 4 + 3, none⟩ = some (.int .u64 e.rem) ∧ W.cell? ⟨w5.heap.size, 0, none⟩ = some (.int .i64 e.id) ∧ W.cell? ⟨w5.heap.size, 1, none⟩ = some (.int .u64 e.wt) ∧ W.cell? ⟨w5.heap.size, 2, none⟩ = some (.int .i64 e.v) ∧ W.cell? ⟨w5.heap.size, 3, none⟩ = some (.int .u64 e.rem))
            (first | exact ⟨x0, x1, x2, x3, y0, y1, y2, y3⟩ | (obtain ⟨⟨⟨x0, x1, x2, x3⟩, xl⟩, ⟨⟨y0, y1, y2, y3⟩, yl⟩, _⟩ := HF.out _ _ _ _ (H9.out.2.below hb10); exact ⟨x0, x1, x2, x3, y0, y1, y2, y3⟩))
            (first
              | (go_at_call 33; refine (HE3.out _ _ (H8.out.below (by first | exact (Below.refl _ _).drew | exact Below.refl _ _))).mono ?_; rintro r w9 ⟨A9, c9, rfl, H9⟩; obtain ⟨⟨⟨x0, x1, x2, x3⟩, xl⟩, ⟨⟨y0, y1, y2, y3⟩, yl⟩, hr9⟩ := HF.out _ _ _ _ H9.out.2; have HR9 := Lib.hid hr9; clear hr9)
              | (go_at_call 37; refine (HSM.out _ _ _ _ _ H9.out.1 HR9.out).mono ?_; rintro r w10 ⟨rfl, hb10⟩))
          all_goals
            go_wp2_with fail
            go_ret
            exact ⟨rfl, HEND.out.1.trans ((H9.out.2.new.below hb10).base.mono HEND.out.2)⟩


end runqDrops

end Go.Proofs.Ytkemhcokkaanfaa
