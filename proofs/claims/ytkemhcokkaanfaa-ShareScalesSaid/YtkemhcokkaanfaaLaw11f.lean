/-
  ShareScales.
-/
import Derived.Test.YtkemhcokkaanfaaLaw11e
import Derived.Test.YtkemhcokkaanfaaShare5
import Derived.Deep.AppendLies
import Derived.BigQuiet
namespace Go.Proofs.Ytkemhcokkaanfaa
open Go.ChangeShapes Go.WideShapes Go.ChangeAt Go.RowKit

namespace shareScales
theorem scale_one (s x S b : Nat) (hb : 0 < b) : wgtN s (x * b) (S * b) = wgtN s x S := by
  have e0 : (S * b = 0) = (S = 0) := by
    apply propext
    constructor
    · intro h; rcases Nat.mul_eq_zero.1 h with h | h; exact h; omega
    · intro h; rw [h]; simp
  have e1 : mdOk s (x * b) (S * b) = mdOk s x S := by
    unfold mdOk
    rw [show s * (x * b) = (s * x) * b by rw [Nat.mul_assoc], show S * b * 18446744073709551616 = (S * 18446744073709551616) * b by rw [Nat.mul_assoc, Nat.mul_assoc, Nat.mul_comm b]]
    exact decide_eq_decide.2 (Nat.mul_lt_mul_right hb)
  have e2 : mdQ s (x * b) (S * b) = mdQ s x S := by
    unfold mdOk at e1
    unfold mdQ
    have h := decide_eq_decide.1 e1
    by_cases c : s * x < S * 18446744073709551616
    · rw [if_pos c, if_pos (h.2 c), show s * (x * b) = (s * x) * b by rw [Nat.mul_assoc]]
      exact Nat.mul_div_mul_right _ _ hb
    · rw [if_neg c, if_neg (fun h2 => c (h.1 h2))]
  unfold wgtN
  rw [e1, e2]
  simp only [e0]
theorem sum_scaled (b : Nat) : ∀ xs : List Nat, (xs.map fun x => x * b).sum = xs.sum * b
  | [] => by simp
  | x :: xs => by simp [sum_scaled b xs, Nat.add_mul]
theorem split_scaled (s b : Nat) (xs : List Nat) (hb : 0 < b) (h : xs.sum * b < 18446744073709551616) : splitN s (xs.map fun x => x * b) = splitN s xs := by
  have h1 : sat (xs.map fun x => x * b).sum = xs.sum * b := by rw [sum_scaled]; exact Nat.min_eq_left (by omega)
  have h2 : sat xs.sum = xs.sum := Nat.min_eq_left (by have := Nat.le_mul_of_pos_right xs.sum hb; omega)
  unfold splitN
  rw [h1, h2, List.map_map]
  exact List.map_congr_left fun x _ => scale_one s x xs.sum b hb
theorem split_reverse (s : Nat) (xs : List Nat) : splitN s xs.reverse = (splitN s xs).reverse := by
  unfold splitN
  rw [List.sum_reverse, List.map_reverse]

/-- two rows in different blocks -/
def Sep (u v : Value) : Prop := ∀ b, u.ownBlock = some b → v.ownBlock = some b → False
theorem Sep.symm {u v : Value} (h : Sep u v) : Sep v u := fun b h1 h2 => h b h2 h1
theorem Sep.step {w : World} {v1 v2 : Value} {B : Nat} {e : TypeId} {n k c g H : Nat} {xs : List Value} (h : Sep v1 v2) (o : w.ownsRow B e 1 v2 n xs) (s : v1.ownBlock = some g ∨ g = H) (hH : w.heap.size ≤ H) : Sep (.slice (some ⟨g, 0, none⟩) k c) v2 := fun b h1 h2 => by
  have e1 : g = b := by simpa [Value.ownBlock] using h1
  subst e1
  rcases s with s | s
  · exact h g s h2
  · have := (o.lt g h2).2; omega
theorem Sep.kept {w w' : World} {u v : Value} {B : Nat} {e : TypeId} {n : Nat} {xs : List Value} (h : Sep u v) (o : w.ownsRow B e 1 v n xs) (g : w.grownBy w' u.ownBlock) : w'.ownsRow B e 1 v n xs := by
  refine ⟨o.1, ?_⟩
  rcases o.2 with h0 | ⟨b, cap, cur, e0, hb, hh, r⟩
  · exact .inl h0
  · refine .inr ⟨b, cap, cur, e0, hb, (g.block b (Array.getElem?_eq_some_iff.1 hh).1 (fun he => h b he.symm (by rw [e0]; rfl))).trans hh, r⟩

theorem rev_take (xs : List Nat) (k : Nat) (hk : k < xs.length) : xs.reverse.take (k + 1) = xs.reverse.take k ++ [xs.getD (xs.length - 1 - k) 0] := by
  rw [List.take_succ_eq_append_getElem (by simpa using hk)]
  simp [List.getD, List.getElem?_eq_getElem (show xs.length - 1 - k < xs.length by omega)]
theorem rev_get (M : List Nat) (j : Nat) (hj : j < M.length) : M.reverse.getD (M.length - 1 - j) 0 = M.getD j 0 := by
  have h : M.length - 1 - j < M.reverse.length := by simp; omega
  rw [List.getD_eq_getElem?_getD, List.getElem?_eq_getElem h, List.getD_eq_getElem?_getD, List.getElem?_eq_getElem hj]
  simp only [Option.getD_some, List.getElem_reverse]
  congr 1
  omega

/-- the row's cells, in every later world -/
theorem nums_at {w w1 : World} {A : Option Addr} {xs : List Nat} (hA : NumsAt .u32 w w.heap.size A xs) (h1 : Below w.heap.size w w1) (hp : 0 < xs.length) :
    ∃ b off : Nat, A = some ⟨b, off, none⟩ ∧ ∀ W, Below w1.heap.size w1 W → ∀ j, j < xs.length → W.cell? ⟨b, off + j, none⟩ = some (.int .u32 ((xs.getD j 0 : Nat) : Int)) := by
  obtain ⟨b, off, rfl, hb, hc⟩ := hA.at_ hp
  exact ⟨b, off, rfl, fun W hW j hj => ((h1.trans (hW.mono h1.size)).cell (p := ⟨b, off + j, none⟩) hb).trans (hc j hj)⟩

set_option maxRecDepth 100000 in
set_option maxHeartbeats 8000000 in
theorem walk (s : Nat) (A : Option Addr) (xs : List Nat) (c : Nat) (y : Nat) (hs : s < 18446744073709551616) (hy : y < 65536) (w : World) (hA : NumsAt .u32 w w.heap.size A xs) (hX : ∀ j, j < xs.length → xs.getD j 0 < 4294967296) (hL : xs.length ≤ 9223372036854775807) :
    Calls Try.prog 5 #[.int .u64 s, .slice A xs.length c, .int .u16 y] w fun e w' => e = .returned (.bool true) ∧ Below w.heap.size w w' := by
  obtain ⟨i0, hi, iz0, iz1, iz2⟩ := info_parts infoW
  by_cases hbig : 200 < xs.length
  · have t1 : decide ((200 : Int) < (xs.length : Int)) = true := decide_eq_true (by omega)
    have t2 : decide (200 < xs.length) = true := decide_eq_true hbig
    clear hA hX
    generalize xs.length = n at *
    go_enter Try.func5, Try.ntmps5
    go_wp2_with fail
    refine (shown11 _).mono ?_
    rintro e w1 ⟨rfl, hb1⟩
    go_wp2_with fail
    all_goals first
      | (exact absurd (show some undef = some (Value.bool _) by assumption) (by simp [undef]))
      | (go_ret; exact ⟨rfl, hb1⟩)
  · have t1 : decide ((200 : Int) < (xs.length : Int)) = false := decide_eq_false (by omega)
    have t2 : decide (200 < xs.length) = false := decide_eq_false hbig
    by_cases hy0 : y = 0
    · have t3 : ((y : Int) == 0) = true := by simp [hy0]
      have t4 : (y == 0) = true := by simp [hy0]
      clear hA hX hy0
      generalize xs.length = n at *
      go_enter Try.func5, Try.ntmps5
      go_wp2_with fail
      refine (shown11 _).mono ?_
      rintro e w1 ⟨rfl, hb1⟩
      go_wp2_with fail
      go_ret
      exact ⟨rfl, hb1⟩
    · have t3 : ((y : Int) == 0) = false := by rw [beq_eq_false_iff_ne]; omega
      have t4 : (y == 0) = false := by rw [beq_eq_false_iff_ne]; omega
      have hsb := shareSums.sum_bound 4294967296 xs hX
      have hXw : Words xs := fun j hj => by have := hX j hj; omega
      have hsy : xs.sum * y < 18446744073709551616 := by
        have : xs.sum * y ≤ (xs.length * 4294967296) * 65536 := Nat.mul_le_mul hsb (by omega)
        omega
      have hMw : Words (xs.map fun x => x * y) := fun j hj => by
        have hj2 : j < xs.length := by simpa using hj
        have h1 := hX j hj2
        have h2 : (xs.map fun x => x * y).getD j 0 = xs.getD j 0 * y := by simp [List.getD, List.getElem?_eq_getElem hj2]
        rw [h2]
        have : xs.getD j 0 * y ≤ 4294967296 * 65536 := Nat.mul_le_mul (by omega) (by omega)
        omega
      have hRw : Words xs.reverse := fun j hj => by
        have hj2 : j < xs.length := by simpa using hj
        have h1 := hX (xs.length - 1 - j) (by omega)
        have h2 : xs.reverse.getD j 0 = xs.getD (xs.length - 1 - j) 0 := by
          rw [List.getD_eq_getElem?_getD, List.getElem?_eq_getElem hj, List.getD_eq_getElem?_getD, List.getElem?_eq_getElem (by omega)]
          simp
        rw [h2]; omega
      have hln : (xs.map fun x => x * y).length = xs.length ∧ xs.reverse.length = xs.length := by simp
      have M1 := Lib.hid fun W A2 c2 (h : U64s W W.heap.size A2 xs) => split_any W A2 xs c2 s h hXw (by omega) hs
      have m2 := fun W A2 c2 (h : U64s W W.heap.size A2 xs.reverse) => split_any W A2 xs.reverse c2 s h hRw (by rw [hln.2]; omega) hs
      have m3 := fun W A2 c2 (h : U64s W W.heap.size A2 (xs.map fun x => x * y)) => split_any W A2 (xs.map fun x => x * y) c2 s h hMw (by rw [hln.1]; omega) hs
      rw [split_reverse, hln.2] at m2
      rw [split_scaled s y xs (by omega) hsy, hln.1] at m3
      have M2 := Lib.hid m2
      have M3 := Lib.hid m3
      have HSW := Lib.hid (And.intro (split_words s xs) (split_len s xs))
      have HA := Lib.hid hA
      have HK := Lib.hid fun k (hk : k < xs.length) => And.intro (shareSums.take_ext xs k hk) (And.intro (rev_take xs k hk) (And.intro (hX k hk) (hX (xs.length - 1 - k) (by omega))))
      obtain ⟨n, hn⟩ : ∃ n, n = xs.length := ⟨_, rfl⟩
      rw [← hn] at hbig t1 t2 hL hsb M1 M2 M3 ⊢
      have HN := Lib.hid hn
      clear hn hX hXw hA hsb hsy hMw hRw hln m2 m3
      go_enter Try.func5, Try.ntmps5
      go_wp2_with fail
      refine (shown11 _).mono ?_
      rintro e w1 ⟨rfl, hb1⟩
      have HB1 := Lib.hid hb1
      clear hb1
      go_wp2_with fail
      go_loopw [8, 9, 10, 11] (fun v1 v2 v3 s11 wr => ∃ k : Nat, k ≤ n ∧ s11 = .int .i64 k ∧ Hid (wr.ownsRow w1.heap.size 22 1 v1 k ((xs.take k).map wv) ∧ wr.ownsRow w1.heap.size 22 1 v2 k (((xs.take k).map fun x => x * y).map wv) ∧ wr.ownsRow w1.heap.size 22 1 v3 k ((xs.reverse.take k).map wv)) ∧
        Hid (Sep v1 v2 ∧ Sep v1 v3 ∧ Sep v2 v3) ∧ Below w1.heap.size w1 wr) (fun _ _ _ s11 _ => n - (intOf s11).toNat)
      case atStart => exact ⟨0, by omega, rfl, Lib.hid ⟨World.ownsRow_nil _ _ _ _, World.ownsRow_nil _ _ _ _, World.ownsRow_nil _ _ _ _⟩, Lib.hid ⟨fun b h => by simp [Value.ownBlock] at h, fun b h => by simp [Value.ownBlock] at h, fun b h => by simp [Value.ownBlock] at h⟩, Below.refl _ _⟩
      case round =>
        obtain ⟨k, hk, rfl, HO, HSEP, hB⟩ := hrel
        have hzr := hB.size
        by_cases hlt : k < n
        · have hkx : k < xs.length := by rw [← HN.out]; exact hlt
          obtain ⟨b, off, rfl, hcs⟩ := nums_at HA.out HB1.out (by omega)
          obtain ⟨p1, p2, p3, p4⟩ := HK.out k hkx
          have HCS := Lib.hid fun W hW => And.intro (hcs W hW k hkx) (hcs W hW (xs.length - 1 - k) (by omega))
          rw [← HN.out] at p2 p4 HCS
          have HP := Lib.hid (And.intro p1 p2)
          obtain ⟨c1, c2⟩ := HCS.out wr hB
          have z1 : decide ((k : Int) < (n : Int)) = true := decide_eq_true (by omega)
          have z2 : decide (k < n) = true := decide_eq_true hlt
          have j0 : (0 : Int) ≤ (k : Int) := Int.natCast_nonneg _
          have j1 : (k : Int) < (n : Int) := by omega
          obtain ⟨pn, hpn⟩ : ∃ pn, pn = n - 1 := ⟨_, rfl⟩
          obtain ⟨r, hr⟩ : ∃ r, r = n - 1 - k := ⟨_, rfl⟩
          rw [← hr] at p4 HCS HP c2
          have e7 : IntKind.i64.wrap ((n : Int) - 1) = (pn : Int) := by rw [IntKind.wrap_i64]; omega
          have e8 : IntKind.i64.wrap ((pn : Int) - (k : Int)) = (r : Int) := by rw [IntKind.wrap_i64]; omega
          have r0 : (0 : Int) ≤ (r : Int) := Int.natCast_nonneg _
          have r1 : (r : Int) < (n : Int) := by omega
          have HB := Lib.hid hB
          clear hcs p1 p2 hkx hpn hr hB
          generalize xs.getD k 0 = x at *
          generalize xs.getD r 0 = z at *
          obtain ⟨xm, hxm⟩ : ∃ xm, xm = x * y := ⟨_, rfl⟩
          have hxb : xm < 18446744073709551616 := by
            have : x * y ≤ 4294967296 * 65536 := Nat.mul_le_mul (by omega) (by omega)
            omega
          have e1 : IntKind.u64.wrap (x : Int) = (x : Int) := by rw [IntKind.wrap_u64]; omega
          have e2 : IntKind.u64.wrap (y : Int) = (y : Int) := by rw [IntKind.wrap_u64]; omega
          have e3 : IntKind.u64.wrap (z : Int) = (z : Int) := by rw [IntKind.wrap_u64]; omega
          have e4 : IntKind.u64.wrap ((x : Int) * (y : Int)) = (xm : Int) := by
            have : (x : Int) * (y : Int) = (xm : Int) := by rw [hxm]; push_cast; rfl
            rw [this, IntKind.wrap_u64]; omega
          have HXM := Lib.hid hxm
          clear hxm
          obtain ⟨o1, o2, o3⟩ := HO.out
          have O1 := Lib.hid o1
          have O2 := Lib.hid o2
          have O3 := Lib.hid o3
          clear o1 o2 o3
          have tok1 : True := trivial
          have tok2 : True := trivial
          go_wp2_with (first
            | (at_builtin; have _t := tok1; refine wpList_append_lies _ rfl _ _ 23 rfl w1.heap.size 22 i0 (.int .u64 0) 1 8 Try.underlying23 hi iz0 iz1 iz2 rfl (by decide) _ _ _ rfl (O1.out.alloc _) ⟨wr.heap.size, 0, none⟩ 1 1 [.int .u64 x] rfl rfl (cell_one_new _ _ _) (by simp [Value.oneCell']) (by omega) (by unfold maxLen; omega) (by omega) (by simp; omega) (wr.heap.size + 1) (by simp) ?_; intro g1 d1 wa oa ga sa la; clear tok1; have hBa : Below w1.heap.size w1 wa := (HB.out.alloc hzr _).grown ga (by simp; omega) (fun j hj => (O1.out.lt j hj).1); obtain ⟨ca1, ca2⟩ := HCS.out wa hBa; have hza := hBa.size)
            | (at_builtin; have _t := tok2; refine wpList_append_lies _ rfl _ _ 23 rfl w1.heap.size 22 i0 (.int .u64 0) 1 8 Try.underlying23 hi iz0 iz1 iz2 rfl (by decide) _ _ _ rfl ((HSEP.out.1.kept (O2.out.alloc _) ga).alloc _) ⟨wa.heap.size, 0, none⟩ 1 1 [.int .u64 xm] rfl rfl (cell_one_new _ _ _) (by simp [Value.oneCell']) (by omega) (by unfold maxLen; omega) (by omega) (by simp; omega) (wa.heap.size + 1) (by simp) ?_; intro g2 d2 wb ob gb sb lb; clear tok2; have hBb : Below w1.heap.size w1 wb := (hBa.alloc hza _).grown gb (by simp; omega) (fun j hj => (O2.out.lt j hj).1); obtain ⟨cb1, cb2⟩ := HCS.out wb hBb; have hzb := hBb.size)
            | (at_builtin; refine wpList_append_lies _ rfl _ _ 23 rfl w1.heap.size 22 i0 (.int .u64 0) 1 8 Try.underlying23 hi iz0 iz1 iz2 rfl (by decide) _ _ _ rfl ((HSEP.out.2.2.kept ((HSEP.out.2.1.kept (O3.out.alloc _) ga).alloc _) gb).alloc _) ⟨wb.heap.size, 0, none⟩ 1 1 [.int .u64 z] rfl rfl (cell_one_new _ _ _) (by simp [Value.oneCell']) (by omega) (by unfold maxLen; omega) (by omega) (by simp; omega) (wb.heap.size + 1) (by simp) ?_; intro g3 d3 wc oc gc sc lc; have hBc : Below w1.heap.size w1 wc := (hBb.alloc hzb _).grown gc (by simp; omega) (fun j hj => (O3.out.lt j hj).1)))
          have S12 := Sep.step (k := k + 1) (c := d1) HSEP.out.1 O2.out sa (by omega)
          have S13 := Sep.step (k := k + 1) (c := d1) HSEP.out.2.1 O3.out sa (by omega)
          have O3a := HSEP.out.2.1.kept (O3.out.alloc _) ga
          have S21 := Sep.step (k := k + 1) (c := d2) S12.symm oa sb (by omega)
          have S23 := Sep.step (k := k + 1) (c := d2) HSEP.out.2.2 O3a sb (by omega)
          have oab := S12.symm.kept (oa.alloc _) gb
          have S31 := Sep.step (k := k + 1) (c := d3) S13.symm oab sc (by omega)
          have S32 := Sep.step (k := k + 1) (c := d3) S23.symm ob sc (by omega)
          have oabc := S13.symm.kept (oab.alloc _) gc
          have obc := S23.symm.kept (ob.alloc _) gc
          have HO2 : Hid (wc.ownsRow w1.heap.size 22 1 (.slice (some ⟨g1, 0, none⟩) (k + 1) d1) (k + 1) ((xs.take (k + 1)).map wv) ∧ wc.ownsRow w1.heap.size 22 1 (.slice (some ⟨g2, 0, none⟩) (k + 1) d2) (k + 1) (((xs.take (k + 1)).map fun x => x * y).map wv) ∧ wc.ownsRow w1.heap.size 22 1 (.slice (some ⟨g3, 0, none⟩) (k + 1) d3) (k + 1) ((xs.reverse.take (k + 1)).map wv)) := Lib.hid ⟨by rw [HP.out.1, List.map_append]; exact oabc, by rw [HP.out.1, List.map_append, List.map_append]; simpa [wv, HXM.out] using obc, by rw [HP.out.2, List.map_append]; exact oc⟩
          have HS2 : Hid (Sep (.slice (some ⟨g1, 0, none⟩) (k + 1) d1) (.slice (some ⟨g2, 0, none⟩) (k + 1) d2) ∧ Sep (.slice (some ⟨g1, 0, none⟩) (k + 1) d1) (.slice (some ⟨g3, 0, none⟩) (k + 1) d3) ∧ Sep (.slice (some ⟨g2, 0, none⟩) (k + 1) d2) (.slice (some ⟨g3, 0, none⟩) (k + 1) d3)) := Lib.hid ⟨S21.symm, S31.symm, S32.symm⟩
          clear S12 S13 O3a S21 S23 oab S31 S32 oabc obc oa ob oc ga gb gc sa sb sc
          go_roundw
          case rel => exact ⟨k + 1, by omega, by go_num, HO2, HS2, hBc⟩
          case measure => simp [intOf]; omega
        · obtain rfl : k = n := by omega
          have z1 : decide ((k : Int) < (k : Int)) = false := decide_eq_false (by omega)
          obtain ⟨o1, o2, o3⟩ := HO.out
          rw [show xs.take k = xs by rw [HN.out, List.take_length]] at o1 o2
          rw [show xs.reverse.take k = xs.reverse by rw [HN.out, ← List.length_reverse, List.take_length]] at o3
          have hl2 : (xs.map fun x => x * y).length = k := by rw [List.length_map]; exact HN.out.symm
          have hl3 : xs.reverse.length = k := by rw [List.length_reverse]; exact HN.out.symm
          have o1' := o1
          rw [HN.out] at o1'
          rw [← hl2] at o2
          rw [← hl3] at o3
          obtain ⟨A1, d1, e1, U1⟩ := own_words o1'
          obtain ⟨A2, d2, e2, U2⟩ := own_words o2
          obtain ⟨A3, d3, e3, U3⟩ := own_words o3
          rw [← HN.out] at e1
          rw [hl2] at e2
          rw [hl3] at e3
          subst e1
          subst e2
          subst e3
          have HUU := Lib.hid (And.intro U1 (And.intro U2 U3))
          have HBw := Lib.hid (HB1.out.trans (hB.mono HB1.out.size))
          clear o1 o2 o3 o1' U1 U2 U3 hB hl2 hl3 HO HSEP HK HA
          go_wp2_with fail
          refine (M1.out wr A1 d1 HUU.out.1).mono ?_
          rintro e w3 ⟨v3, rfl, hown3, hb3⟩
          obtain ⟨A4, d4, rfl, U4⟩ := own_words hown3
          have hz3 := hb3.size
          have HU4 := Lib.hid (And.intro U4 hb3)
          have hlen := HSW.out.2
          rw [← HN.out] at hlen
          have hwm := HSW.out.1
          have HLEN := Lib.hid (And.intro hlen hwm)
          rw [HLEN.out.1]
          clear hown3 U4 hb3 hlen hwm M1 HSW
          generalize splitN s xs = M at *
          have hrl : M.reverse.length = k := by rw [List.length_reverse]; exact HLEN.out.1
          go_wp2_with fail
          refine (M2.out w3 A3 d3 ((HUU.out.2.2.keep HU4.out.2).more hz3)).mono ?_
          rintro e w4 ⟨v4, rfl, hown4, hb4⟩
          rw [hrl] at hown4
          have hown4' := hown4
          rw [← hrl] at hown4'
          obtain ⟨A5, d5, e5, U5⟩ := own_words hown4'
          rw [hrl] at e5
          subst e5
          have hz4 := hb4.size
          have HU5 := Lib.hid (And.intro U5 hb4)
          have HRL := Lib.hid hrl
          clear hown4 hown4' U5 hb4 M2 hrl
          have q1 : ((k : Int) != (k : Int)) = false := by simp
          go_wp2_with fail
          refine (M3.out w4 A2 d2 (((HUU.out.2.1.keep HU4.out.2).more hz3 |>.keep HU5.out.2).more hz4)).mono ?_
          rintro e w5 ⟨v5, rfl, hown5, hb5⟩
          obtain ⟨A6, d6, rfl, U6⟩ := own_words hown5
          have hz5 := hb5.size
          rw [HLEN.out.1]
          have U4b := ((HU4.out.1.keep HU5.out.2).more hz4 |>.keep hb5).more hz5
          have U5b := (HU5.out.1.keep hb5).more hz5
          have MS := same_any w5 A4 A6 M M d4 d6 w5.heap.size w5.heap.size U4b U6 (by rw [HLEN.out.1]; omega) (by rw [HLEN.out.1]; omega) (Nat.le_refl _) (Nat.le_refl _)
          rw [decide_eq_true rfl, HLEN.out.1] at MS
          have MSH := Lib.hid MS
          have HB5 := Lib.hid (((HBw.out.trans (HU4.out.2.mono HBw.out.size)).trans (HU5.out.2.mono (by have := HBw.out.size; omega))).trans (hb5.mono (by have := HBw.out.size; omega)))
          have HUB := Lib.hid (And.intro U4b U5b)
          clear hown5 U6 U4b U5b hb5 MS M3
          go_wp2_with fail
          refine MSH.out.mono ?_
          rintro e w6 ⟨rfl, hb6⟩
          have hz6 := hb6.size
          have HUC := Lib.hid (And.intro ((HUB.out.1.keep hb6).more hz6) ((HUB.out.2.keep hb6).more hz6))
          have HB6 := Lib.hid (HB5.out.trans (hb6.mono HB5.out.size))
          clear hb6 MSH
          go_wp2_with fail
          go_loopw [14] (fun s14 wr => ∃ j : Nat, j ≤ k ∧ s14 = .int .i64 j ∧ Below w6.heap.size w6 wr) (fun s14 _ => k - (intOf s14).toNat)
          case atStart => exact ⟨0, by omega, rfl, Below.refl _ _⟩
          case round =>
            obtain ⟨j, hj, rfl, hBj⟩ := hrel
            by_cases hlt : j < k
            · have hjM : j < M.length := by rw [HLEN.out.1]; exact hlt
              have hjR : k - 1 - j < M.reverse.length := by rw [HRL.out]; omega
              rcases HUC.out.1 with h | ⟨b4, o4, rfl, hb4, hc4⟩
              · rw [h] at hjM; simp at hjM
              rcases HUC.out.2 with h | ⟨b5, o5, rfl, hb5, hc5⟩
              · rw [h] at hjR; simp at hjR
              have c4 := (hBj.cell (p := ⟨b4, o4 + j, none⟩) hb4).trans (hc4 j hjM)
              have c5 := (hBj.cell (p := ⟨b5, o5 + (k - 1 - j), none⟩) hb5).trans (hc5 (k - 1 - j) hjR)
              have hrg := rev_get M j hjM
              rw [HLEN.out.1] at hrg
              rw [hrg] at c5
              obtain ⟨pn, hpn⟩ : ∃ pn, pn = k - 1 := ⟨_, rfl⟩
              obtain ⟨r, hr⟩ : ∃ r, r = k - 1 - j := ⟨_, rfl⟩
              rw [← hr] at c5
              have e7 : IntKind.i64.wrap ((k : Int) - 1) = (pn : Int) := by rw [IntKind.wrap_i64]; omega
              have e8 : IntKind.i64.wrap ((pn : Int) - (j : Int)) = (r : Int) := by rw [IntKind.wrap_i64]; omega
              have r0 : (0 : Int) ≤ (r : Int) := Int.natCast_nonneg _
              have r1 : (r : Int) < (k : Int) := by omega
              have y0 : decide ((j : Int) < (k : Int)) = true := decide_eq_true (by omega)
              have y1 : decide (j < k) = true := decide_eq_true hlt
              have j0 : (0 : Int) ≤ (j : Int) := Int.natCast_nonneg _
              have j1 : (j : Int) < (k : Int) := by omega
              have HBJ := Lib.hid hBj
              clear hc4 hc5 hrg hpn hr hjM hjR hBj
              generalize M.getD j 0 = mm at *
              have q2 : ((mm : Int) != (mm : Int)) = false := by simp
              have q3 : (mm != mm) = false := by simp
              go_wp2_with fail
              go_big_quiet (fail)
              go_wp2_with fail
              go_roundw
              case rel => exact ⟨j + 1, by omega, by go_num, below_drewN HBJ.out _⟩
              case measure => simp [intOf]; omega
            · obtain rfl : j = k := by omega
              have y0 : decide ((j : Int) < (j : Int)) = false := decide_eq_false (by omega)
              have HE := Lib.hid (HB6.out.trans (hBj.mono HB6.out.size))
              clear hBj
              go_wp2_with fail
              go_ret
              exact ⟨rfl, HE.out⟩

set_option maxRecDepth 100000 in
theorem lifted (os : Os) (started : os.Started) (H : Type) (enc : TypeId × Value → H) :
    ReturnsInHanded {} Try.checked os 5 .any (Rows.shareScalesSpec.pre6 enc Try.prog Try.f5 Rows.shareScalesRow.domain false) (Rows.shareScalesSpec.post enc Try.prog Try.f5 false true false false) := by
  refine returnsInHanded_of_change (C := Try.checked) own started (by as_aux_lemma => kernel_rfl) Try.func5
    (ChangeSpec.witness6 (enc := enc) (C := Try.checked) false ⟨#[], #[.int .u64 0, .slice none 0 0, .int .u16 0], []⟩ 8 (by as_aux_lemma => kernel_rfl) (by as_aux_lemma => kernel_rfl) (by as_aux_lemma => kernel_rfl) (by as_aux_lemma => kernel_rfl)) ?_
  intro W base args ds gs before hval0 hW hcnd _
  have hval : ∀ (j : Nat) t v, Try.f5.params[j]? = some t → args[j]? = some v → Value.okWide Try.prog W .any base t v := hval0
  have hW' := hW
  obtain ⟨p, q, hA0, hV, rfl, hfz, hnd⟩ := hW
  have hA : DataW.TrodAll enc Try.prog W 0 (fun _ => true) true Try.f5.params.toList args.toList ds p := hA0
  rw [Try.params5] at hA hval
  obtain ⟨v0, vs0, d0, ds0, p0, q0, hargs, rfl, rfl, h0, r0⟩ := trodAll_cons hA
  obtain ⟨v1, vs1, d1, ds1, p1, q1, rfl, rfl, rfl, h1, r1⟩ := trodAll_cons r0
  obtain ⟨v2, vs2, d2, ds2, p2, q2, rfl, rfl, rfl, h2, r2⟩ := trodAll_cons r1
  obtain ⟨rfl, rfl, rfl⟩ := trodAll_nil r2
  obtain rfl : args = #[v0, v1, v2] := by cases args; simp_all
  obtain ⟨a0, rfl, b0⟩ := open_u64 Try.underlying22 (hval 0 22 v0 rfl rfl) h0
  obtain ⟨A1, xs1, c1, rfl, U1, X1, L1⟩ := open_u32s Try.underlying28 Try.underlying27 (by kernel_rfl) (hval 1 28 v1 rfl rfl) h1
  obtain ⟨a2, rfl, b2⟩ := open_u16 Try.underlying30 (hval 2 30 v2 rfl rfl) h2
  refine (walk a0 A1 xs1 c1 a2 b0 b2 W U1 X1 L1).mono fun e W' ⟨he, bel⟩ => ?_
  subst he
  exact ⟨_, rfl, law_post laidOut (by as_aux_lemma => kernel_rfl) rfl Try.underlying4 rfl (fun ds hds => by
    match ds, hds with
    | [x0, x1, x2], _ => rfl) hW' bel⟩

theorem closed : joinedFacts Try.prog 5 Try.f5 Rows.shareScalesSpec Rows.shareScalesRow = true := by
  unfold joinedFacts
  simp only [Bool.and_eq_true]
  exact ⟨⟨⟨⟨⟨⟨⟨⟨⟨⟨⟨⟨⟨⟨⟨⟨⟨⟨⟨⟨⟨⟨⟨⟨⟨⟨⟨⟨⟨⟨⟨(by as_aux_lemma => kernel_rfl), laidOut⟩, mapsRowedT⟩, (by as_aux_lemma => kernel_rfl)⟩, (by as_aux_lemma => kernel_rfl)⟩, rfl⟩, stopsN⟩, rfl⟩, stopKnobsN⟩, (by as_aux_lemma => kernel_rfl)⟩, (by as_aux_lemma => kernel_rfl)⟩, (by as_aux_lemma => kernel_rfl)⟩, (by as_aux_lemma => kernel_rfl)⟩, (by as_aux_lemma => kernel_rfl)⟩, (by as_aux_lemma => kernel_rfl)⟩, (by as_aux_lemma => kernel_rfl)⟩, (by as_aux_lemma => kernel_rfl)⟩, (by as_aux_lemma => kernel_rfl)⟩, (by as_aux_lemma => kernel_rfl)⟩, (by as_aux_lemma => kernel_rfl)⟩, (by as_aux_lemma => kernel_rfl)⟩, (by as_aux_lemma => kernel_rfl)⟩, plainKeysT⟩, rfl⟩, stopsHeardT⟩, mayEnterT⟩, liftedT⟩, makeT⟩, (by as_aux_lemma => kernel_rfl)⟩, (by as_aux_lemma => kernel_rfl)⟩, (by as_aux_lemma => kernel_rfl)⟩, (by as_aux_lemma => kernel_rfl)⟩

theorem over : Rows.shareScalesRow.holds Try.pinned (OpenSpec.ofChange Rows.shareScalesSpec) :=
  OpenClaim.holds_of_wide 5 Try.f5 rfl rfl rfl rfl rfl rfl rfl ⟨rfl, rfl, rfl, rfl, rfl⟩ rfl rfl rfl rfl rfl (by as_aux_lemma => kernel_rfl) Try.func5 closed
    (of_decide_eq_true (by as_aux_lemma => kernel_rfl)) (by unfold Func.isWrapper; first | (rw [if_pos (by decide +kernel)]; as_aux_lemma => kernel_rfl) | (rw [if_neg (by decide +kernel)]; exact ⟨rfl, rfl⟩))
    (fun os started H enc _ => lifted os started H enc)

theorem proved : Rows.ShareScalesSaid := over
#print axioms proved

end shareScales

end Go.Proofs.Ytkemhcokkaanfaa
