/-
  dolelaw08.bench.work: the current one is served.
-/
import Derived.Test.YtkemhcokkaanfaaBh
namespace Go.Proofs.Ytkemhcokkaanfaa
open Go.RowKit Go.Maps

/-- a piece of work in a block of its own is none of the queue's blocks -/
theorem QAt.not_work {w : World} {q b : Nat} {F : List Nat} {X : QS} {K : Int} {cs : Array Value} (h : QAt w q F X K) (hk : Blk w b cs 120) : b ∉ F := by
  obtain ⟨bm, bt, S, gg, hM, rfl⟩ := h.ex
  intro hm
  simp only [qblocks, List.mem_cons, List.mem_append, List.mem_map] at hm
  rcases hm with rfl | rfl | hm | ⟨x, hx, rfl⟩
  · have := hM.blk.symm.trans hk
    simp at this
  · exact hM.map.not_blk hk rfl
  · obtain ⟨⟨t, m, a1, rfl, a3, _⟩, hu⟩ := hM.tree
    rw [List.mem_cons] at hm
    rcases hm with rfl | hm
    · have := a1.symm.trans hk
      simp at this
    · obtain ⟨ds, hd, _⟩ := node_size a3 b hm
      have := hd.symm.trans hk
      simp at this
  · have := (hM.ents x hx).symm.trans hk
    simp at this
theorem pick_keep {w0 : Base} {w : World} {p q b : Nat} {cs : Array Value} {X : QS} {K : Int} {own : Nat → En} {c g : Int} {t : Nat} (h : BQ w0 w p q X K own c g t) (hT : Terms c g t) (hb : Blk w b cs 120) : ∀ W, Below w.heap.size w W →
    Calls Try.prog 44 #[.pointer (some ⟨q, 0, none⟩), .int .i64 g] W fun e w' => e = .returned (.int .i64 (X.pickI g)) ∧ Hid (BQ w0 w' p q (pickQ X g) K own c g t ∧ Blk w' b cs 120) := fun W hW => by
  obtain ⟨F, h1, h2, h3⟩ := (h.below hW).ex
  have hbW := hb.below hW hb.lt
  exact (qpick_any h1 g (by have := hT.g0; omega) (by have := hT.g1; omega)).mono fun r w' hp => ⟨hp.1, (h.below hW).turned h1 h2 h3 hp.2.out, hbW.turns hp.2.out.turns (h1.not_work hbW)⟩
theorem yield_keep {w0 : Base} {w : World} {p q b : Nat} {cs : Array Value} {X : QS} {K : Int} {own : Nat → En} {c g : Int} {t : Nat} (h : BQ w0 w p q X K own c g t) (hT : Terms c g t) (hb : Blk w b cs 120) : ∀ W, Below w.heap.size w W →
    Calls Try.prog 45 #[.pointer (some ⟨q, 0, none⟩), .int .i64 g] W fun e w' => e = .returned (.int .i64 (X.yieldI g)) ∧ Hid (BQ w0 w' p q (yieldQ X g) K own c g t ∧ Blk w' b cs 120) := fun W hW => by
  obtain ⟨F, h1, h2, h3⟩ := (h.below hW).ex
  have hbW := hb.below hW hb.lt
  exact (qyield_any h1 g (by have := hT.g0; omega) (by have := hT.g1; omega)).mono fun r w' hp => ⟨hp.1, (h.below hW).turned h1 h2 h3 hp.2.out, hbW.turns hp.2.out.turns (h1.not_work hbW)⟩
set_option maxRecDepth 100000 in
set_option maxHeartbeats 64000000 in
theorem work_serve {w0 : Base} {w : World} {p q : Nat} {X : QS} {K : Int} {own : Nat → En} {c g : Int} {t : Nat} (hB : BQ w0 w p q X K own c g t) (hT : Terms c g t) (hN : NearB c g t ⟨X, own⟩) (_hm : X.mn ≤ 100000000000) (hK : K + 2000 ≤ 1000000000000000) (x : WK) (hx : x.num) (weighs : Bool) (hk0 : x.kind ≠ 0) (hkw : ¬ (x.kind = 1 ∧ weighs = true)) :
    Calls Try.prog 72 #[.pointer (some ⟨p, 0, none⟩), workV x, .bool weighs] w fun r w' => r = .returned (.tuple #[.int .i64 (servedB g t ⟨X, own⟩ x weighs), .int .u64 (nsB t x (servedB g t ⟨X, own⟩ x weighs))]) ∧ Hid (BQ w0 w' p q (workB c g t ⟨X, own⟩ x weighs).X (K + 2000) (workB c g t ⟨X, own⟩ x weighs).own c g t) := by
  obtain ⟨xk, xw, xt, xn, xy⟩ := x
  obtain ⟨n1, n2, n3, n4, n5⟩ := hx
  dsimp only at n1 n2 n3 n4 n5 hk0 hkw
  obtain ⟨W1, hW1⟩ : ∃ W1, W1 = w.alloc (.cells #[.int .i64 xk, .int .u8 xw, .int .u32 xt, .int .u32 xn, .bool xy] 120) := ⟨_, rfl⟩
  have hb1 : Below w.heap.size w W1 := by rw [hW1]; exact (Below.refl _ _).alloc (Nat.le_refl _) _
  have hbx : Blk W1 w.heap.size #[.int .i64 xk, .int .u8 xw, .int .u32 xt, .int .u32 xn, .bool xy] 120 := by rw [hW1]; exact Blk.new _ _ _
  have y0 : W1.cell? ⟨w.heap.size, 0, none⟩ = some (.int .i64 xk) := Blk.cell hbx 0
  have y1 : W1.cell? ⟨w.heap.size, 1, none⟩ = some (.int .u8 xw) := Blk.cell hbx 1
  have y2 : W1.cell? ⟨w.heap.size, 2, none⟩ = some (.int .u32 xt) := Blk.cell hbx 2
  have y3 : W1.cell? ⟨w.heap.size, 3, none⟩ = some (.int .u32 xn) := Blk.cell hbx 3
  have y4 : W1.cell? ⟨w.heap.size, 4, none⟩ = some (.bool xy) := Blk.cell hbx 4
  obtain ⟨id, hid⟩ : ∃ id, id = xw % 8 := ⟨_, rfl⟩
  have h8 : id < 8 := by rw [hid]; exact Nat.mod_lt _ (by omega)
  have e1 : (xw : Int) % 8 = (id : Int) := by rw [hid]; rfl
  have hB1 := hB.below hb1
  have HB1 := Lib.hid hB1
  have HW1 := Lib.hid hW1
  have q0 := hB1.bench.q0
  have cg := hB1.bench.g0
  have hpl := hB1.bench.lt
  have hbl := hbx.lt
  obtain ⟨ns, hns⟩ : ∃ ns, ns = xn % (t + 1) := ⟨_, rfl⟩
  have hnt : ns ≤ t := by rw [hns]; exact Nat.le_of_lt_succ (Nat.mod_lt _ (by omega))
  obtain ⟨t1, t2, t3, t4, t5, t6⟩ := (show Terms c g t from hT)
  have hok : X.ok := hN.q.ok
  have HR : Hid (((turnQ X g xy).cur = -1 → servedB g t ⟨X, own⟩ ⟨xk, xw, xt, xn, xy⟩ weighs = -1 ∧ workB c g t ⟨X, own⟩ ⟨xk, xw, xt, xn, xy⟩ weighs = ⟨turnQ X g xy, own⟩ ∧ chargeC (turnQ X g xy) ns = 7 ∧ chargeQ (turnQ X g xy) ns = turnQ X g xy) ∧
      ((turnQ X g xy).cur ≠ -1 → servedB g t ⟨X, own⟩ ⟨xk, xw, xt, xn, xy⟩ weighs = (turnQ X g xy).cur ∧ workB c g t ⟨X, own⟩ ⟨xk, xw, xt, xn, xy⟩ weighs = ⟨pickQ (chargeQ (turnQ X g xy) ns) g, own⟩ ∧ chargeC (turnQ X g xy) ns = 0)) := Lib.hid (by
    have hn := hN.q.turn g xy
    refine ⟨fun hc => ⟨?_, ?_, if_pos hc, ?_⟩, fun hc => ⟨?_, ?_, ?_⟩⟩
    · unfold servedB; rw [if_neg hk0, if_neg hkw, if_pos (.inl hc)]
    · unfold workB; rw [if_neg hk0, if_neg hkw, if_pos (.inl hc)]
    · unfold chargeQ
      have : (turnQ X g xy).get (turnQ X g xy).cur = none := by
        cases hg : (turnQ X g xy).get (turnQ X g xy).cur with
        | none => rfl
        | some y =>
          have h1 := QS.get_some hg
          have := (hn.ok.ents y h1.1).i1
          omega
      rw [this]
    · unfold servedB; rw [if_neg hk0, if_neg hkw, if_neg (by rintro (h | h); exact hc h; simp only at h; omega)]
    · unfold workB; rw [if_neg hk0, if_neg hkw, if_neg (by rintro (h | h); exact hc h; simp only at h; omega), hns]
    · unfold chargeC; rw [if_neg hc, if_neg (by omega)])
  have HNS : Hid (ns = xn % (t + 1)) := Lib.hid hns
  have e5 : IntKind.u64.wrap ((t : Int) + 1) = ((t + 1 : Nat) : Int) := by rw [IntKind.wrap_u64]; omega
  have e6 : (xn : Int) % ((t + 1 : Nat) : Int) = (ns : Int) := by rw [hns]; rfl
  have e6' : (xn : Int) % ((t : Int) + 1) = (ns : Int) := by rw [hns]; rfl
  have tz : (t + 1 == 0) = false := beq_eq_false_iff_ne.2 (by omega)
  have MP := Lib.hid (pick_keep HB1.out hT hbx)
  have z0 : (xk == 0) = false := beq_eq_false_iff_ne.2 hk0
  have z0' : decide (xk = 0) = false := decide_eq_false hk0
  have hkw2 : (xk ≠ 1) ∨ weighs = false := by
    by_cases h1 : xk = 1
    · cases weighs
      · exact .inr rfl
      · exact absurd ⟨h1, rfl⟩ hkw
    · exact .inl h1
  have HKW := Lib.hid hkw2
  have HB0 := Lib.hid hk0
  clear hB hB1 hW1 hid hns hok hN hkw hkw2 hk0 hbx
  have hsp : (decide (xk = 1) = true ∧ (xk == 1) = true ∧ weighs = false) ∨ (decide (xk = 1) = false ∧ (xk == 1) = false) := by
    by_cases h1 : xk = 1
    · exact .inl ⟨decide_eq_true h1, beq_iff_eq.2 h1, HKW.out.resolve_left (fun h => h h1)⟩
    · exact .inr ⟨decide_eq_false h1, beq_eq_false_iff_ne.2 h1⟩
  obtain ⟨Y, hY⟩ : ∃ Y, Y = turnQ X g xy := ⟨_, rfl⟩
  rw [← hY] at HR
  obtain ⟨cu, hcu⟩ : ∃ cu, cu = Y.cur := ⟨_, rfl⟩
  obtain ⟨rc, hrc⟩ : ∃ rc, rc = chargeC Y ns := ⟨_, rfl⟩
  obtain ⟨Z, hZ⟩ : ∃ Z, Z = chargeQ Y ns := ⟨_, rfl⟩
  have HG : Hid ((cu = -1 ∧ rc = 7 ∧ servedB g t ⟨X, own⟩ ⟨xk, xw, xt, xn, xy⟩ weighs = -1 ∧ workB c g t ⟨X, own⟩ ⟨xk, xw, xt, xn, xy⟩ weighs = ⟨Z, own⟩) ∨ (cu ≠ -1 ∧ rc = 0 ∧ servedB g t ⟨X, own⟩ ⟨xk, xw, xt, xn, xy⟩ weighs = cu ∧ workB c g t ⟨X, own⟩ ⟨xk, xw, xt, xn, xy⟩ weighs = ⟨pickQ Z g, own⟩)) := Lib.hid (by
    by_cases hc : cu = -1
    · obtain ⟨r1, r2, r3, r4⟩ := HR.out.1 (hcu.symm.trans hc)
      exact .inl ⟨hc, hrc.trans r3, r1, by rw [r2, hZ, r4]⟩
    · obtain ⟨r1, r2, r3⟩ := HR.out.2 (fun h => hc (hcu.trans h))
      exact .inr ⟨hc, hrc.trans r3, r1.trans hcu.symm, by rw [r2, hZ]⟩)
  have HYF : Hid (xy = false → pickQ X g = Y ∧ X.pickI g = cu) := Lib.hid fun h => by rw [hcu, hY, h]; exact ⟨rfl, rfl⟩
  have HYT : Hid (xy = true → yieldQ (pickQ X g) g = Y ∧ (pickQ X g).yieldI g = cu) := Lib.hid fun h => by rw [hcu, hY, h]; exact ⟨rfl, rfl⟩
  have MCHG : Hid (∀ W, BQ w0 W p q Y K own c g t → Calls Try.prog 34 #[.pointer (some ⟨q, 0, none⟩), .int .u64 (ns : Nat)] W fun r w' => r = .returned (.int .i64 rc) ∧ Hid (BQ w0 w' p q Z (K + 1000) own c g t)) := Lib.hid fun W hW => by rw [hrc, hZ]; exact bq_charge hW (by omega) ns (by omega)
  clear HR hY hcu hrc hZ
  generalize servedB g t ⟨X, own⟩ ⟨xk, xw, xt, xn, xy⟩ weighs = sb at HG ⊢
  generalize workB c g t ⟨X, own⟩ ⟨xk, xw, xt, xn, xy⟩ weighs = wb at HG ⊢
  have HN2 : Hid (cu ≠ -1 → nsB t ⟨xk, xw, xt, xn, xy⟩ cu = ns) := Lib.hid fun hc => by unfold nsB; rw [if_neg hc]; exact HNS.out.symm
  have HN1 : Hid (nsB t ⟨xk, xw, xt, xn, xy⟩ (-1) = 0) := Lib.hid (if_pos rfl)
  generalize nsB t ⟨xk, xw, xt, xn, xy⟩ = nb at HN1 HN2 ⊢
  cases xy
  · rw [(HYF.out rfl).1, (HYF.out rfl).2] at MP
    rcases hsp with ⟨s1, s2, rfl⟩ | ⟨s1, s2⟩
    all_goals
      go_enter Try.func72, Try.ntmps72
      go_wp2_with fail
      rw [← HW1.out]
      apply wp_region_to (fun W => (W.cell? ⟨p, 0, none⟩ = some (.pointer (some ⟨q, 0, none⟩)) ∧ W.cell? ⟨p, 35, none⟩ = some (.int .u64 t) ∧ W.cell? ⟨w.heap.size, 3, none⟩ = some (.int .u32 xn) ∧ W.cell? ⟨w.heap.size, 4, none⟩ = some (.bool false)) ∧ Hid (BQ w0 W p q Y K own c g t))
      case h =>
        go_region_with (go_at_call 44; refine (MP.out _ (by first | exact (Below.refl _ _).drew | exact Below.refl _ _)).mono ?_; rintro r w7 ⟨rfl, HB7⟩)
        all_goals exact ⟨rfl, ⟨HB7.out.1.bench.q0, HB7.out.1.bench.t0, Blk.cell HB7.out.2 3, Blk.cell HB7.out.2 4⟩, HB7.out.1⟩
      rintro W7 ⟨⟨q7, t7, n7, v7⟩, HB7⟩
      clear y0 y1 y2 y3 y4 q0 cg
      go_wp2_with fail
      go_big_quiet (fail)
      have HB8 := Lib.hid (HB7.out.below (below_drewN (Below.refl _ _) nq))
      go_wp2_with fail
      refine (MCHG.out _ HB8.out).mono ?_
      rintro r w8 ⟨rfl, HB9⟩
      have q9 := HB9.out.bench.q0
      have g9 := HB9.out.bench.g0
      have MP2 := Lib.hid (pick_at HB9.out hT)
      clear q7 t7 n7 v7 HB8 HB7
      rcases HG.out with ⟨k1, k2, k3, k4⟩ | ⟨k1, k2, k3, k4⟩
      · subst k1 k2 k3 k4
        clear HG HN2
        go_wp2_with fail
        go_ret2
        exact ⟨by rw [HN1.out]; rfl, HB9.out.mono (by omega) (by omega)⟩
      · subst k2 k3 k4
        replace HN2 := Lib.hid (HN2.out k1)
        clear HG HN1 k1
        go_wp2_with fail
        apply wp_region_to (fun W => Hid (BQ w0 W p q (pickQ Z g) (K + 1000) own c g t))
        case h =>
          go_region_with (go_at_call 44; refine (MP2.out _ (by first | exact (Below.refl _ _).drew | exact Below.refl _ _)).mono ?_; rintro r w10 ⟨rfl, HB10⟩)
          all_goals exact ⟨rfl, HB10⟩
        rintro W11 HB11
        go_wp2_with fail
        go_ret2
        exact ⟨by rw [HN2.out]; first | rfl | (rw [e6']), HB11.out.mono (by omega) (by omega)⟩
  · rcases hsp with ⟨s1, s2, rfl⟩ | ⟨s1, s2⟩
    all_goals
      go_enter Try.func72, Try.ntmps72
      go_wp2_with fail
      rw [← HW1.out]
      apply wp_region_to (fun W => (W.cell? ⟨p, 0, none⟩ = some (.pointer (some ⟨q, 0, none⟩)) ∧ W.cell? ⟨p, 34, none⟩ = some (.int .i64 g) ∧ W.cell? ⟨w.heap.size, 4, none⟩ = some (.bool true)) ∧ Hid (BQ w0 W p q (pickQ X g) K own c g t ∧ Blk W w.heap.size #[.int .i64 xk, .int .u8 xw, .int .u32 xt, .int .u32 xn, .bool true] 120))
      case h =>
        go_region_with (go_at_call 44; refine (MP.out _ (by first | exact (Below.refl _ _).drew | exact Below.refl _ _)).mono ?_; rintro r w7 ⟨rfl, HB7⟩)
        all_goals exact ⟨rfl, ⟨HB7.out.1.bench.q0, HB7.out.1.bench.g0, Blk.cell HB7.out.2 4⟩, HB7⟩
      rintro W6 ⟨⟨q6, g6, v6⟩, HB6⟩
      have MY := Lib.hid (yield_keep HB6.out.1 hT HB6.out.2)
      rw [(HYT.out (by trivial)).1, (HYT.out (by trivial)).2] at MY
      clear y0 y1 y2 y3 y4 q0 cg MP HB6
      go_wp2_with fail
      apply wp_region_to (fun W => (W.cell? ⟨p, 0, none⟩ = some (.pointer (some ⟨q, 0, none⟩)) ∧ W.cell? ⟨p, 35, none⟩ = some (.int .u64 t) ∧ W.cell? ⟨w.heap.size, 3, none⟩ = some (.int .u32 xn) ∧ W.cell? ⟨w.heap.size, 4, none⟩ = some (.bool true)) ∧ Hid (BQ w0 W p q Y K own c g t))
      case h =>
        go_region_with (go_at_call 45; refine (MY.out _ (by first | exact (Below.refl _ _).drew | exact Below.refl _ _)).mono ?_; rintro r w7 ⟨rfl, HB7⟩)
        all_goals exact ⟨rfl, ⟨HB7.out.1.bench.q0, HB7.out.1.bench.t0, Blk.cell HB7.out.2 3, Blk.cell HB7.out.2 4⟩, HB7.out.1⟩
      rintro W7 ⟨⟨q7, t7, n7, v7⟩, HB7⟩
      clear q6 g6 v6 MY
      go_wp2_with fail
      try simp only [Act.put, List.getElem_toArray, List.getElem_cons_succ, List.getElem_cons_zero, List.setIfInBounds_toArray, List.set_cons_zero, List.set_cons_succ]
      go_big_quiet (fail)
      have HB8 := Lib.hid (HB7.out.below (below_drewN (Below.refl _ _) nq))
      go_wp2_with fail
      refine (MCHG.out _ HB8.out).mono ?_
      rintro r w8 ⟨rfl, HB9⟩
      have q9 := HB9.out.bench.q0
      have g9 := HB9.out.bench.g0
      have MP2 := Lib.hid (pick_at HB9.out hT)
      clear q7 t7 n7 v7 HB8 HB7
      rcases HG.out with ⟨k1, k2, k3, k4⟩ | ⟨k1, k2, k3, k4⟩
      · subst k1 k2 k3 k4
        clear HG HN2
        go_wp2_with fail
        go_ret2
        exact ⟨by rw [HN1.out]; rfl, HB9.out.mono (by omega) (by omega)⟩
      · subst k2 k3 k4
        replace HN2 := Lib.hid (HN2.out k1)
        clear HG HN1 k1
        go_wp2_with fail
        apply wp_region_to (fun W => Hid (BQ w0 W p q (pickQ Z g) (K + 1000) own c g t))
        case h =>
          go_region_with (go_at_call 44; refine (MP2.out _ (by first | exact (Below.refl _ _).drew | exact Below.refl _ _)).mono ?_; rintro r w10 ⟨rfl, HB10⟩)
          all_goals exact ⟨rfl, HB10⟩
        rintro W11 HB11
        go_wp2_with fail
        go_ret2
        exact ⟨by rw [HN2.out]; first | rfl | (rw [e6']), HB11.out.mono (by omega) (by omega)⟩

end Go.Proofs.Ytkemhcokkaanfaa
