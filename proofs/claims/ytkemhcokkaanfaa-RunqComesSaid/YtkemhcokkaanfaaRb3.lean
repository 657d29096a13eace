/-
  rbtree.settled: a node below which one was taken away.
-/
import Derived.Test.YtkemhcokkaanfaaRb2
import Derived.StillTailTactics
import Derived.Deep.RegionWith
namespace Go.Proofs.Ytkemhcokkaanfaa
open Go.RowKit

section
variable {w0 w w' : World} {S : List Nat} {ks : List (Int × Int)} {K K' : Int} {t t' : Tr} {b : Nat} {l r l' r' : Tr} {v i lev : Int}
theorem Mid.skewC (h : Mid 209 w0 S ks K w t) : Calls Try.prog 149 #[.pointer t.ptr] w fun e w' => ∃ t', e = .returned (.pointer t'.ptr) ∧ Mid 209 w0 S ks K w' t' := by
  refine (skew_mid t w h.tr h.nodup h.lv).mono ?_
  rintro e w' ⟨t', rfl, k⟩
  rw [h.keys] at k
  exact ⟨t', rfl, h.then k⟩
theorem Mid.splitC (h : Mid 209 w0 S ks K w t) (hK : K ≤ 9223372036854775806) : Calls Try.prog 148 #[.pointer t.ptr] w fun e w' => ∃ t', e = .returned (.pointer t'.ptr) ∧ Mid 209 w0 S ks (K + 1) w' t' := by
  refine (split_mid t w h.tr h.nodup h.lv hK).mono ?_
  rintro e w' ⟨t', rfl, k⟩
  rw [h.keys] at k
  exact ⟨t', rfl, h.then k⟩
/-- the cells that a walk asks for -/
abbrev NodeFacts (w : World) (b : Nat) (v i lev : Int) (l r : Option Addr) : Prop :=
  w.cell? ⟨b, 0, none⟩ = some (.int .i64 v) ∧ w.cell? ⟨b, 1, none⟩ = some (.int .i64 i) ∧ w.cell? ⟨b, 2, none⟩ = some (.int .i64 lev) ∧ w.cell? ⟨b, 3, none⟩ = some (.pointer l) ∧ w.cell? ⟨b, 4, none⟩ = some (.pointer r) ∧ ∀ j, w.frozen? ⟨b, j, none⟩ = false
theorem Mid.skewR (h : Mid 209 w0 S ks K w (.node b l v i lev r)) : Calls Try.prog 149 #[.pointer r.ptr] w fun e w' => ∃ r', e = .returned (.pointer r'.ptr) ∧
    Hid (Mid 209 w0 S ks K (w'.setCell ⟨b, 4, none⟩ (.pointer r'.ptr)) (.node b l v i lev r')) ∧ NodeFacts w' b v i lev l.ptr r.ptr := by
  refine (h.right.skewC).mono ?_
  rintro e w' ⟨r', rfl, k⟩
  have := h.setRight k (Int.le_refl _)
  rw [show l.keys ++ (v, i) :: r.keys = ks from h.keys] at this
  exact ⟨r', rfl, this, (h.ownR k).node⟩
theorem Mid.splitR (h : Mid 209 w0 S ks K w (.node b l v i lev r)) (hK : K ≤ 9223372036854775806) : Calls Try.prog 148 #[.pointer r.ptr] w fun e w' => ∃ r', e = .returned (.pointer r'.ptr) ∧
    Hid (Mid 209 w0 S ks (K + 1) (w'.setCell ⟨b, 4, none⟩ (.pointer r'.ptr)) (.node b l v i lev r')) ∧ NodeFacts w' b v i lev l.ptr r.ptr := by
  refine (h.right.splitC hK).mono ?_
  rintro e w' ⟨r', rfl, k⟩
  have := h.setRight k (by omega)
  rw [show l.keys ++ (v, i) :: r.keys = ks from h.keys] at this
  exact ⟨r', rfl, this, (h.ownR k).node⟩
/-- two deep -/
theorem Mid.skewRR {br : Nat} {lr rr : Tr} {vr ir levr : Int} (h : Mid 209 w0 S ks K w (.node b l v i lev (.node br lr vr ir levr rr))) : Calls Try.prog 149 #[.pointer rr.ptr] w fun e w' => ∃ r', e = .returned (.pointer r'.ptr) ∧
    Hid (Mid 209 w0 S ks K (w'.setCell ⟨br, 4, none⟩ (.pointer r'.ptr)) (.node b l v i lev (.node br lr vr ir levr r'))) ∧ NodeFacts w' br vr ir levr lr.ptr rr.ptr ∧ NodeFacts w' b v i lev l.ptr (some ⟨br, 0, none⟩) := by
  refine (h.right.skewR).mono ?_
  rintro e w' ⟨r', rfl, k, hf⟩
  obtain ⟨n1, n2, n3, n4, n5⟩ := nodup_parts h.nodup
  have k2 := k.out
  have hb2 : Blk (w'.setCell ⟨br, 4, none⟩ (.pointer r'.ptr)) b (nodeCells v i lev l.ptr (some ⟨br, 0, none⟩)) 209 := h.tr.1.turns k2.turns n2
  have x1 : b ≠ br := fun e => n2 (by rw [e]; simp [Tr.blocks])
  refine ⟨r', rfl, ?_, hf, Blk.node (hb2.of (Below.heap_setCell w' ⟨br, 4, none⟩ (.pointer r'.ptr) b x1).symm)⟩
  have hl2 : IsTr 209 (w'.setCell ⟨br, 4, none⟩ (.pointer r'.ptr)) l := h.tr.2.1.turns k2.turns n5
  have hlt := h.tr.1.lt
  have m1 : b ∉ (Tr.node br lr vr ir levr r').blocks := fun hm => (k2.sub b hm).elim n2 (fun e => by omega)
  have m5 : ∀ x, x ∈ l.blocks → x ∉ (Tr.node br lr vr ir levr r').blocks := fun x hx hr' => (k2.sub x hr').elim (fun e => n5 x hx e) (fun e => by have := h.tr.2.1.lt x hx; omega)
  have hsub : ∀ x, x ∈ (Tr.node br lr vr ir levr rr).blocks → x < w0.heap.size → x ∈ S := fun x hx hlt2 => (h.sub x (by simp only [Tr.blocks, List.mem_cons, List.mem_append] at hx ⊢; exact .inr (.inr hx))).elim id (fun e => by omega)
  refine ⟨⟨hb2, hl2, k2.tr⟩, ?_, nodup_make n1 m1 n3 k2.nodup m5, fun x hx => ?_, ⟨h.lv.1, h.lv.2.1, h.lv.2.2.1, k2.lv⟩, h.turns.then k2.turns hsub⟩
  · rw [← h.keys]
    show l.keys ++ (v, i) :: (Tr.node br lr vr ir levr r').keys = l.keys ++ (v, i) :: (Tr.node br lr vr ir levr rr).keys
    rw [k2.keys]
  · have hx' : x = b ∨ x ∈ l.blocks ∨ x ∈ (Tr.node br lr vr ir levr r').blocks := by
      rw [Tr.blocks, List.mem_cons, List.mem_append] at hx
      exact hx
    rcases hx' with rfl | hx | hx
    · exact h.sub x (by rw [Tr.blocks]; exact List.mem_cons_self)
    · exact h.sub x (by rw [Tr.blocks, List.mem_cons, List.mem_append]; exact .inr (.inl hx))
    · rcases k2.sub x hx with e | e
      · exact h.sub x (by rw [Tr.blocks, List.mem_cons, List.mem_append]; exact .inr (.inr e))
      · exact .inr (Nat.le_trans h.turns.size e)
/-- a level is laid -/
theorem Mid.setLev (h : Mid 209 w0 S ks K w (.node b l v i lev r)) (m : Int) (h1 : 1 ≤ m) (h2 : m ≤ K) : Mid 209 w0 S ks K (w.setCell ⟨b, 2, none⟩ (.int .i64 m)) (.node b l v i m r) := by
  obtain ⟨hb, hl, hr⟩ := h.tr
  obtain ⟨n1, n2, n3, n4, n5⟩ := nodup_parts h.nodup
  exact ⟨⟨Blk.set hb 2 _, hl.setCell _ n1, hr.setCell _ n2⟩, h.keys, h.nodup, h.sub, ⟨h1, h2, h.lv.2.2⟩, h.turns.setCell (h.sub b (by simp [Tr.blocks])) _⟩
theorem Mid.setLevR {br : Nat} {lr rr : Tr} {vr ir levr : Int} (h : Mid 209 w0 S ks K w (.node b l v i lev (.node br lr vr ir levr rr))) (m : Int) (h1 : 1 ≤ m) (h2 : m ≤ K) :
    Mid 209 w0 S ks K (w.setCell ⟨br, 2, none⟩ (.int .i64 m)) (.node b l v i lev (.node br lr vr ir m rr)) := by
  obtain ⟨hb, hl, hbr, hlr, hrr⟩ := h.tr
  obtain ⟨n1, n2, n3, n4, n5⟩ := nodup_parts h.nodup
  obtain ⟨m1, m2, m3, m4, m5⟩ := nodup_parts n4
  have x1 : b ≠ br := fun e => n2 (by rw [e]; simp [Tr.blocks])
  have x2 : br ∉ l.blocks := fun e => n5 br e (by simp [Tr.blocks])
  refine ⟨⟨hb.other _ x1, hl.setCell _ x2, Blk.set hbr 2 _, hlr.setCell _ m1, hrr.setCell _ m2⟩, h.keys, h.nodup, h.sub, ⟨h.lv.1, h.lv.2.1, h.lv.2.2.1, h1, h2, h.lv.2.2.2.2.2⟩, h.turns.setCell (h.sub br (by simp [Tr.blocks])) _⟩
end

set_option maxRecDepth 100000 in
set_option maxHeartbeats 4000000 in
theorem settled_any {w0 : World} {S : List Nat} {ks : List (Int × Int)} {K : Int} (w : World) (b : Nat) (l r : Tr) (v i lev : Int) (h : Mid 209 w0 S ks K w (.node b l v i lev r)) (hK0 : 0 ≤ K) (hK : K ≤ 9223372036854775000) :
    Calls Try.prog 151 #[.pointer (some ⟨b, 0, none⟩)] w fun e w' => ∃ t', e = .returned (.pointer t'.ptr) ∧ Mid 209 w0 S ks (K + 2) w' t' := by
  have hks : ks ≠ [] := by rw [← h.keys]; simp [Tr.keys]
  obtain ⟨c0, c1, c2, c3, c4, cf⟩ := h.tr.1.node
  have lv1 := h.lv.2.2.1.lev
  have lv2 := h.lv.2.2.2.lev
  have lvb : lev ≤ K := h.lv.2.1
  have lvn : 1 ≤ lev := h.lv.1
  have ub1 : l.lev ≤ K := by
    rcases lv1.2 with e | e
    · rw [e]; exact hK0
    · exact e.2
  have ub2 : r.lev ≤ K := by
    rcases lv2.2 with e | e
    · rw [e]; exact hK0
    · exact e.2
  have HL := Lib.hid fun n => height_any l (w.drewN n) (h.tr.2.1.drewN n)
  have HR := Lib.hid fun n => height_any r (w.drewN n) (h.tr.2.2.drewN n)
  have H := Lib.hid h
  obtain ⟨m0, hm0⟩ : ∃ m, m = min l.lev r.lev := ⟨_, rfl⟩
  obtain ⟨m, hm⟩ : ∃ m, m = m0 + 1 := ⟨_, rfl⟩
  have e0 : min l.lev r.lev = m0 := hm0.symm
  have e1 : IntKind.i64.wrap (m0 + 1) = m := by rw [IntKind.wrap_i64]; omega
  have m1 : 1 ≤ m := by omega
  have m2 : m ≤ K + 1 := by omega
  generalize l.lev = a at *
  generalize hc : r.lev = c at *
  have HC := Lib.hid hc
  clear hc
  clear h hm hm0 lv1 lv2
  go_enter Try.func151, Try.ntmps151
  go_wp2_with fail
  go_big_quiet ((first | (go_at_call 157; exact quiet_left (HL.out _)) | (go_at_call 157; exact quiet_left (HR.out _))))
  by_cases hlt : m < lev
  · have t1 : decide (m < lev) = true := decide_eq_true hlt
    obtain ⟨W1, hW1⟩ : ∃ W1, W1 = (w.drewN nq).setCell ⟨b, 2, none⟩ (.int .i64 m) := ⟨_, rfl⟩
    have hX1 := (H.out.drewN nq).setLev m m1 (by omega)
    rw [← hW1] at hX1
    have HX := Lib.hid hX1
    have HW1 := Lib.hid hW1
    obtain ⟨a0, a1, a2, a3, a4, af⟩ := hX1.tr.1.node
    have MH := Lib.hid (height_any r W1 hX1.tr.2.2)
    rw [HC.out] at MH
    clear hW1 hX1
    go_wp2_with fail
    rw [← HW1.out]
    clear HW1
    refine MH.out.mono ?_
    rintro e w1 ⟨rfl, rfl⟩
    by_cases hgt : m < c
    · have t2 : decide (m < c) = true := decide_eq_true hgt
      cases r with
      | nil => exact absurd HC.out (by show ¬ (0 : Int) = c; omega)
      | node br0 lr0 vr0 ir0 levr0 rr0 =>
        have hY := HX.out.setLevR m m1 (by omega)
        obtain ⟨h0, h1, h2, h3, h4, hf0⟩ := HX.out.tr.2.2.1.node
        have a4' : W1.cell? ⟨b, 4, none⟩ = some (.pointer (some ⟨br0, 0, none⟩)) := a4
        clear a4
        have HX := Lib.hid hY
        clear hY
        go_wp2_with fail
        refine (HX.out.skewC).mono ?_
        rintro e w2 ⟨t2, he, k2⟩
        obtain ⟨b2, l2, v2, i2, lev2, r2, rfl⟩ := k2.node hks
        replace he : e = .returned (.pointer (some ⟨b2, 0, none⟩)) := he
        subst he
        obtain ⟨p0, p1, p2, p3, p4, pf⟩ := k2.tr.1.node
        have K2 := Lib.hid k2
        clear k2
        go_wp2_with fail
        refine (K2.out.skewR).mono ?_
        rintro e w3 ⟨r3, rfl, k3, q0, q1, q2, q3, q4, qf⟩
        obtain ⟨W4, hW4⟩ : ∃ W4, W4 = w3.setCell ⟨b2, 4, none⟩ (.pointer r3.ptr) := ⟨_, rfl⟩
        have k4 := k3.out
        rw [← hW4] at k4
        have HW4 := Lib.hid hW4
        clear hW4 k3
        obtain ⟨s0, s1, s2, s3, s4, sf⟩ := k4.tr.1.node
        have K4 := Lib.hid k4
        clear k4
        cases r3 with
        | nil =>
          have s4' : W4.cell? ⟨b2, 4, none⟩ = some (.pointer none) := s4
          clear s4 c0 c1 c2 c3 c4 cf
          go_wp2_with fail
          rw [← HW4.out]
          refine (K4.out.splitC (by omega)).mono ?_
          rintro e w5 ⟨t5, he, k5⟩
          obtain ⟨b5, l5, v5, i5, lev5, r5, rfl⟩ := k5.node hks
          replace he : e = .returned (.pointer (some ⟨b5, 0, none⟩)) := he
          subst he
          obtain ⟨u0, u1, u2, u3, u4, uf⟩ := k5.tr.1.node
          have K5 := Lib.hid k5
          clear k5
          go_wp2_with fail
          refine (K5.out.splitR (by omega)).mono ?_
          rintro e w6 ⟨r6, rfl, k6, y0, y1, y2, y3, y4, yf⟩
          go_wp2_with fail
          go_ret
          exact ⟨.node b5 l5 v5 i5 lev5 r6, rfl, by rw [show K + 2 = K + 1 + 1 by omega]; exact k6.out⟩
        | node br lr vr ir levr rr =>
          have s4' : W4.cell? ⟨b2, 4, none⟩ = some (.pointer (some ⟨br, 0, none⟩)) := s4
          obtain ⟨g0, g1, g2, g3, g4, gf⟩ := K4.out.tr.2.2.1.node
          have MD := Lib.hid (K4.out.skewRR)
          have MDd := Lib.hid ((K4.out.drewN 1).skewRR)
          have MC := Lib.hid (show ∀ W, W = W4 ∨ W = W4.drew → Calls Try.prog 149 #[.pointer rr.ptr] W fun e w' => ∃ r', e = .returned (.pointer r'.ptr) ∧ w'.cell? ⟨b2, 4, none⟩ = some (.pointer (some ⟨br, 0, none⟩)) ∧ NodeFacts w' br vr ir levr lr.ptr rr.ptr ∧
              Hid (Mid 209 w0 S ks K (w'.setCell ⟨br, 4, none⟩ (.pointer r'.ptr)) (.node b2 l2 v2 i2 lev2 (.node br lr vr ir levr r'))) from fun W hW => by
            have : Mid 209 w0 S ks K W (.node b2 l2 v2 i2 lev2 (.node br lr vr ir levr rr)) := by
              rcases hW with rfl | rfl
              · exact K4.out
              · exact K4.out.drewN 1
            refine this.skewRR.mono ?_
            rintro e w' ⟨r', he, hm, hf, hg⟩
            exact ⟨r', he, hg.2.2.2.2.1, hf, hm⟩)
          clear s4 MD MDd c0 c1 c2 c3 c4 cf
          go_wp2_with fail
          rw [← HW4.out]
          clear HW4 q0 q1 q2 q3 q4 qf p0 p1 p2 p3 p4 pf
          go_region_with (go_at_call 149; refine (MC.out _ (by first | exact .inr rfl | exact .inl rfl)).mono ?_; rintro e w5 ⟨r5, rfl, n4, ⟨m0', m1', m2', m3', m4', mf'⟩, k5⟩)
          all_goals
            clear s0 s1 s2 s3 s4' sf
            go_wp2_with fail
            refine (k5.out.splitC (by omega)).mono ?_
            rintro e w5 ⟨t5, he, k7⟩
            obtain ⟨b5, l5, v5, i5, lev5, r5, rfl⟩ := k7.node hks
            replace he : e = .returned (.pointer (some ⟨b5, 0, none⟩)) := he
            subst he
            obtain ⟨u0, u1, u2, u3, u4, uf⟩ := k7.tr.1.node
            have K5 := Lib.hid k7
            clear k7
            go_wp2_with fail
            refine (K5.out.splitR (by omega)).mono ?_
            rintro e w6 ⟨r6, rfl, k6, y0, y1, y2, y3, y4, yf⟩
            go_wp2_with fail
            go_ret
            exact ⟨.node b5 l5 v5 i5 lev5 r6, rfl, by rw [show K + 2 = K + 1 + 1 by omega]; exact k6.out⟩
    · have t2 : decide (m < c) = false := decide_eq_false hgt
      go_wp2_with fail
      refine (HX.out.skewC).mono ?_
      rintro e w2 ⟨t2, he, k2⟩
      obtain ⟨b2, l2, v2, i2, lev2, r2, rfl⟩ := k2.node hks
      replace he : e = .returned (.pointer (some ⟨b2, 0, none⟩)) := he
      subst he
      obtain ⟨p0, p1, p2, p3, p4, pf⟩ := k2.tr.1.node
      have K2 := Lib.hid k2
      clear k2
      go_wp2_with fail
      refine (K2.out.skewR).mono ?_
      rintro e w3 ⟨r3, rfl, k3, q0, q1, q2, q3, q4, qf⟩
      obtain ⟨W4, hW4⟩ : ∃ W4, W4 = w3.setCell ⟨b2, 4, none⟩ (.pointer r3.ptr) := ⟨_, rfl⟩
      have k4 := k3.out
      rw [← hW4] at k4
      have HW4 := Lib.hid hW4
      clear hW4 k3
      obtain ⟨s0, s1, s2, s3, s4, sf⟩ := k4.tr.1.node
      have K4 := Lib.hid k4
      clear k4
      cases r3 with
      | nil =>
        have s4' : W4.cell? ⟨b2, 4, none⟩ = some (.pointer none) := s4
        clear s4 c0 c1 c2 c3 c4 cf
        go_wp2_with fail
        rw [← HW4.out]
        refine (K4.out.splitC (by omega)).mono ?_
        rintro e w5 ⟨t5, he, k5⟩
        obtain ⟨b5, l5, v5, i5, lev5, r5, rfl⟩ := k5.node hks
        replace he : e = .returned (.pointer (some ⟨b5, 0, none⟩)) := he
        subst he
        obtain ⟨u0, u1, u2, u3, u4, uf⟩ := k5.tr.1.node
        have K5 := Lib.hid k5
        clear k5
        go_wp2_with fail
        refine (K5.out.splitR (by omega)).mono ?_
        rintro e w6 ⟨r6, rfl, k6, y0, y1, y2, y3, y4, yf⟩
        go_wp2_with fail
        go_ret
        exact ⟨.node b5 l5 v5 i5 lev5 r6, rfl, by rw [show K + 2 = K + 1 + 1 by omega]; exact k6.out⟩
      | node br lr vr ir levr rr =>
        have s4' : W4.cell? ⟨b2, 4, none⟩ = some (.pointer (some ⟨br, 0, none⟩)) := s4
        obtain ⟨g0, g1, g2, g3, g4, gf⟩ := K4.out.tr.2.2.1.node
        have MD := Lib.hid (K4.out.skewRR)
        have MDd := Lib.hid ((K4.out.drewN 1).skewRR)
        have MC := Lib.hid (show ∀ W, W = W4 ∨ W = W4.drew → Calls Try.prog 149 #[.pointer rr.ptr] W fun e w' => ∃ r', e = .returned (.pointer r'.ptr) ∧ w'.cell? ⟨b2, 4, none⟩ = some (.pointer (some ⟨br, 0, none⟩)) ∧ NodeFacts w' br vr ir levr lr.ptr rr.ptr ∧
            Hid (Mid 209 w0 S ks K (w'.setCell ⟨br, 4, none⟩ (.pointer r'.ptr)) (.node b2 l2 v2 i2 lev2 (.node br lr vr ir levr r'))) from fun W hW => by
          have : Mid 209 w0 S ks K W (.node b2 l2 v2 i2 lev2 (.node br lr vr ir levr rr)) := by
            rcases hW with rfl | rfl
            · exact K4.out
            · exact K4.out.drewN 1
          refine this.skewRR.mono ?_
          rintro e w' ⟨r', he, hm, hf, hg⟩
          exact ⟨r', he, hg.2.2.2.2.1, hf, hm⟩)
        clear s4 MD MDd c0 c1 c2 c3 c4 cf
        go_wp2_with fail
        rw [← HW4.out]
        clear HW4 q0 q1 q2 q3 q4 qf p0 p1 p2 p3 p4 pf
        go_region_with (go_at_call 149; refine (MC.out _ (by first | exact .inr rfl | exact .inl rfl)).mono ?_; rintro e w5 ⟨r5, rfl, n4, ⟨m0', m1', m2', m3', m4', mf'⟩, k5⟩)
        all_goals
          clear s0 s1 s2 s3 s4' sf
          go_wp2_with fail
          refine (k5.out.splitC (by omega)).mono ?_
          rintro e w5 ⟨t5, he, k7⟩
          obtain ⟨b5, l5, v5, i5, lev5, r5, rfl⟩ := k7.node hks
          replace he : e = .returned (.pointer (some ⟨b5, 0, none⟩)) := he
          subst he
          obtain ⟨u0, u1, u2, u3, u4, uf⟩ := k7.tr.1.node
          have K5 := Lib.hid k7
          clear k7
          go_wp2_with fail
          refine (K5.out.splitR (by omega)).mono ?_
          rintro e w6 ⟨r6, rfl, k6, y0, y1, y2, y3, y4, yf⟩
          go_wp2_with fail
          go_ret
          exact ⟨.node b5 l5 v5 i5 lev5 r6, rfl, by rw [show K + 2 = K + 1 + 1 by omega]; exact k6.out⟩
  · have t1 : decide (m < lev) = false := decide_eq_false hlt
    have HX := Lib.hid (H.out.drewN nq)
    go_wp2_with fail
    refine (HX.out.skewC).mono ?_
    rintro e w2 ⟨t2, he, k2⟩
    obtain ⟨b2, l2, v2, i2, lev2, r2, rfl⟩ := k2.node hks
    replace he : e = .returned (.pointer (some ⟨b2, 0, none⟩)) := he
    subst he
    obtain ⟨p0, p1, p2, p3, p4, pf⟩ := k2.tr.1.node
    have K2 := Lib.hid k2
    clear k2
    go_wp2_with fail
    refine (K2.out.skewR).mono ?_
    rintro e w3 ⟨r3, rfl, k3, q0, q1, q2, q3, q4, qf⟩
    obtain ⟨W4, hW4⟩ : ∃ W4, W4 = w3.setCell ⟨b2, 4, none⟩ (.pointer r3.ptr) := ⟨_, rfl⟩
    have k4 := k3.out
    rw [← hW4] at k4
    have HW4 := Lib.hid hW4
    clear hW4 k3
    obtain ⟨s0, s1, s2, s3, s4, sf⟩ := k4.tr.1.node
    have K4 := Lib.hid k4
    clear k4
    cases r3 with
    | nil =>
      have s4' : W4.cell? ⟨b2, 4, none⟩ = some (.pointer none) := s4
      clear s4 c0 c1 c2 c3 c4 cf
      go_wp2_with fail
      rw [← HW4.out]
      refine (K4.out.splitC (by omega)).mono ?_
      rintro e w5 ⟨t5, he, k5⟩
      obtain ⟨b5, l5, v5, i5, lev5, r5, rfl⟩ := k5.node hks
      replace he : e = .returned (.pointer (some ⟨b5, 0, none⟩)) := he
      subst he
      obtain ⟨u0, u1, u2, u3, u4, uf⟩ := k5.tr.1.node
      have K5 := Lib.hid k5
      clear k5
      go_wp2_with fail
      refine (K5.out.splitR (by omega)).mono ?_
      rintro e w6 ⟨r6, rfl, k6, y0, y1, y2, y3, y4, yf⟩
      go_wp2_with fail
      go_ret
      exact ⟨.node b5 l5 v5 i5 lev5 r6, rfl, by rw [show K + 2 = K + 1 + 1 by omega]; exact k6.out⟩
    | node br lr vr ir levr rr =>
      have s4' : W4.cell? ⟨b2, 4, none⟩ = some (.pointer (some ⟨br, 0, none⟩)) := s4
      obtain ⟨g0, g1, g2, g3, g4, gf⟩ := K4.out.tr.2.2.1.node
      have MD := Lib.hid (K4.out.skewRR)
      have MDd := Lib.hid ((K4.out.drewN 1).skewRR)
      have MC := Lib.hid (show ∀ W, W = W4 ∨ W = W4.drew → Calls Try.prog 149 #[.pointer rr.ptr] W fun e w' => ∃ r', e = .returned (.pointer r'.ptr) ∧ w'.cell? ⟨b2, 4, none⟩ = some (.pointer (some ⟨br, 0, none⟩)) ∧ NodeFacts w' br vr ir levr lr.ptr rr.ptr ∧
          Hid (Mid 209 w0 S ks K (w'.setCell ⟨br, 4, none⟩ (.pointer r'.ptr)) (.node b2 l2 v2 i2 lev2 (.node br lr vr ir levr r'))) from fun W hW => by
        have : Mid 209 w0 S ks K W (.node b2 l2 v2 i2 lev2 (.node br lr vr ir levr rr)) := by
          rcases hW with rfl | rfl
          · exact K4.out
          · exact K4.out.drewN 1
        refine this.skewRR.mono ?_
        rintro e w' ⟨r', he, hm, hf, hg⟩
        exact ⟨r', he, hg.2.2.2.2.1, hf, hm⟩)
      clear s4 MD MDd c0 c1 c2 c3 c4 cf
      go_wp2_with fail
      rw [← HW4.out]
      clear HW4 q0 q1 q2 q3 q4 qf p0 p1 p2 p3 p4 pf
      go_region_with (go_at_call 149; refine (MC.out _ (by first | exact .inr rfl | exact .inl rfl)).mono ?_; rintro e w5 ⟨r5, rfl, n4, ⟨m0', m1', m2', m3', m4', mf'⟩, k5⟩)
      all_goals
        clear s0 s1 s2 s3 s4' sf
        go_wp2_with fail
        refine (k5.out.splitC (by omega)).mono ?_
        rintro e w5 ⟨t5, he, k7⟩
        obtain ⟨b5, l5, v5, i5, lev5, r5, rfl⟩ := k7.node hks
        replace he : e = .returned (.pointer (some ⟨b5, 0, none⟩)) := he
        subst he
        obtain ⟨u0, u1, u2, u3, u4, uf⟩ := k7.tr.1.node
        have K5 := Lib.hid k7
        clear k7
        go_wp2_with fail
        refine (K5.out.splitR (by omega)).mono ?_
        rintro e w6 ⟨r6, rfl, k6, y0, y1, y2, y3, y4, yf⟩
        go_wp2_with fail
        go_ret
        exact ⟨.node b5 l5 v5 i5 lev5 r6, rfl, by rw [show K + 2 = K + 1 + 1 by omega]; exact k6.out⟩

end Go.Proofs.Ytkemhcokkaanfaa
