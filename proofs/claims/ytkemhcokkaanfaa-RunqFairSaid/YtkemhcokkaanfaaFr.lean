/-
  RunqFair: of two that stay, with their weights, from one moment on, begun alike, what they were served by weight differs by at most the credit, the granularity and one charge, whatever the others do.
-/
import Derived.Test.YtkemhcokkaanfaaBp
namespace Go.Proofs.Ytkemhcokkaanfaa
open Go.ChangeShapes Go.WideShapes Go.ChangeAt Go.RowKit Go.Deep Go.Maps

namespace runqFair
/-- the two stand with what they were served -/
structure Two (B : BS) (v : Int) (x y : Nat) (k sa sb : Nat) : Prop where
  a : Serv B.X 8 x v sa
  b : Serv B.X 9 y v sb
  al : sa ≤ k * 65536
  bl : sb ≤ k * 65536
theorem Two.work {c g : Int} {t k0 k : Nat} {w0 : Base} {w : World} {p q : Nat} {B : BS} {v : Int} {x y sa sb : Nat} (h : Two B v x y k sa sb) (hB : Bst w0 w p q c g t k0 B) (hT : Terms c g t) (hk : k0 ≤ 400) (z : WK) {wh : Int} {nb sa2 sb2 : Nat} (hwh : wh = servedB g t B z true) (hnb : nb = nsB t z wh)
    (ha : sa2 = if wh = 8 then sa + nb else sa) (hb : sb2 = if wh = 9 then sb + nb else sb) : Two (workB c g t B z true) v x y (k + 1) sa2 sb2 := by
  have hns : z.ns % (t + 1) ≤ t := Nat.le_of_lt_succ (Nat.mod_lt _ (by omega))
  have ht := hT.t1
  have h1 := h.a.work hT hB.near (hB.mnb hk) z true (by omega)
  have h2 := h.b.work hT hB.near (hB.mnb hk) z true (by omega)
  have hl := h.al
  have hl2 := h.bl
  rw [← hwh] at h1 h2
  have hq : ∀ n : Int, n ≠ -1 → wh = n → nb = z.ns % (t + 1) := fun n hn he => by
    rw [hnb]
    unfold nsB
    rw [if_neg (by omega)]
  have e1 : sa2 = if wh = 8 then sa + z.ns % (t + 1) else sa := by
    rw [ha]
    split
    · rename_i he
      rw [hq 8 (by decide) he]
    · rfl
  have e2 : sb2 = if wh = 9 then sb + z.ns % (t + 1) else sb := by
    rw [hb]
    split
    · rename_i he
      rw [hq 9 (by decide) he]
    · rfl
  have key : ∀ {a b : Nat} {P : Prop} [Decidable P], a ≤ k * 65536 → b ≤ 65536 → (if P then a + b else a) ≤ (k + 1) * 65536 := fun {a b P} _ ha hb => by
    rw [Nat.add_mul, Nat.one_mul]
    split
    · exact Nat.add_le_add ha hb
    · exact Nat.le_add_right_of_le ha
  exact ⟨by rw [e1]; exact h1, by rw [e2]; exact h2, by rw [e1]; exact key hl (Nat.le_trans hns ht), by rw [e2]; exact key hl2 (Nat.le_trans hns ht)⟩

set_option maxRecDepth 100000 in
set_option maxHeartbeats 64000000 in
theorem walk (c g t : Nat) (A A' : Option Addr) (xs ys : List WK) (cc cc' : Nat) (wa wb : Nat) (hc : c < 65536) (hg : g < 65536) (ht : t < 65536) (hwa : wa < 4294967296) (hwb : wb < 4294967296) (w : World) (hU : RowW w w.heap.size A xs) (hU' : RowW w w.heap.size A' ys) (hX : ∀ x ∈ xs, x.num) (hX' : ∀ x ∈ ys, x.num) (hL : xs.length ≤ 9223372036854775807) (hL' : ys.length ≤ 9223372036854775807) :
    Calls Try.prog 18 #[.agg #[.int .u16 c, .int .u16 g, .int .u16 t], .agg #[.slice A xs.length cc, .slice A' ys.length cc'], .agg #[.int .u32 wa, .int .u32 wb]] w fun e w' => e = .returned (.bool true) ∧ Below w.heap.size w w' := by
  have HT : Hid (Terms (c : Int) (g : Int) (1 + t)) := Lib.hid ⟨by omega, by omega, by omega, by omega, by omega, by omega⟩
  have HU := Lib.hid hU
  have HX := Lib.hid hX
  have HU' := Lib.hid hU'
  have HX' := Lib.hid hX'
  clear hU hX hU' hX'
  obtain ⟨n, hn⟩ : ∃ n, n = xs.length := ⟨_, rfl⟩
  obtain ⟨n', hn'⟩ : ∃ n', n' = ys.length := ⟨_, rfl⟩
  rw [← hn] at hL ⊢
  rw [← hn'] at hL' ⊢
  have HN := Lib.hid hn
  have HN' := Lib.hid hn'
  clear hn hn'
  have MS := Lib.hid fun W => set_any c g t hc hg ht W
  have MHA := Lib.hid fun W => heavy_any wa hwa W
  have MHB := Lib.hid fun W => heavy_any wb hwb W
  have hha := heavyN_in wa
  have hhb := heavyN_in wb
  generalize heavyN wa = x at *
  generalize heavyN wb = y at *
  obtain ⟨W3, hW3, hb3, hs3, m1, m2, m3⟩ := boxes3 w #[.int .u16 c, .int .u16 g, .int .u16 t] #[.slice A n cc, .slice A' n' cc'] #[.int .u32 wa, .int .u32 wb] 111 113 114
  have HW3 := Lib.hid hW3
  have HM := Lib.hid (And.intro m1 m3)
  have HB3 := Lib.hid (And.intro hb3 hs3)
  clear hW3 m1 m2 m3 hb3 hs3
  go_enter Try.func18, Try.ntmps18
  go_wp2_with fail
  rw [← HW3.out]
  refine (awake08 _).mono ?_
  rintro r w1 ⟨rfl, hb1⟩
  have hs1 := hb1.size
  rw [HB3.out.2] at hs1
  have y0 : w1.cell? ⟨w.heap.size, 0, none⟩ = some (.int .u16 c) := Blk.cell (HM.out.1.below hb1 HM.out.1.lt) 0
  have y1 : w1.cell? ⟨w.heap.size, 1, none⟩ = some (.int .u16 g) := Blk.cell (HM.out.1.below hb1 HM.out.1.lt) 1
  have y2 : w1.cell? ⟨w.heap.size, 2, none⟩ = some (.int .u16 t) := Blk.cell (HM.out.1.below hb1 HM.out.1.lt) 2
  have HWB : Hid (∀ W, Below w1.heap.size w1 W → W.cell? ⟨w.heap.size + 2, 0, none⟩ = some (.int .u32 wa) ∧ W.cell? ⟨w.heap.size + 2, 1, none⟩ = some (.int .u32 wb)) := Lib.hid fun W hW => by
    have hm := (HM.out.2.below hb1 HM.out.2.lt).below hW (by omega)
    exact ⟨Blk.cell hm 0, Blk.cell hm 1⟩
  have HB1 : Hid (Below w.heap.size w w1) := Lib.hid (HB3.out.1.trans (hb1.mono HB3.out.1.size))
  clear hb1 hs1
  go_wp2_with (go_at_call 71; refine (MS.out _).mono ?_; rintro r w2 ⟨p, q, rfl, H2⟩)
  have HS := Lib.hid (bst_start H2.out HT.out)
  clear y0 y1 y2 H2 MS HM HB3 HW3
  go_loopw [11] (fun s11 wr => ∃ (k : Nat) (B : BS), k ≤ n ∧ k ≤ 60 ∧ s11 = .int .i64 k ∧ Hid (Bst ⟨w1, []⟩ wr p q c g (1 + t) k B ∧ ∀ e, e ∈ B.X.L → e.id < (8 : Int))) (fun s11 _ => n - (intOf s11).toNat)
  case atStart => exact ⟨0, _, by omega, by omega, rfl, HS.out, fun e he => by simp [aw0] at he⟩
  case round =>
    obtain ⟨k, B, hk, hk60, rfl, HB⟩ := hrel
    clear HS
    by_cases hgo : k < n ∧ k < 60
    · obtain ⟨hlt, h60⟩ := hgo
      have hk1 : k < xs.length := by rw [← HN.out]; exact hlt
      obtain ⟨b, off, rfl, hb, hcc⟩ := HU.out.at_ (by omega)
      have hBw := HB1.out.trans (HB.out.1.at_.base.mono HB1.out.size)
      obtain ⟨x0, x1, x2, x3, x4⟩ := (hcc k hk1).below hBw hb
      have hxn := HX.out (xs.getD k WK.nil) (by rw [getD_wk xs hk1]; exact List.getElem_mem _)
      clear hcc hBw hk1
      generalize xs.getD k WK.nil = z at *
      have MW := Lib.hid (bst_work HB.out.1 HT.out (by omega) z hxn true)
      have HID := Lib.hid (bst_ids HB.out.1 HT.out (by omega) z true (Int.le_refl _) HB.out.2)
      generalize workB c g (1 + t) B z true = B2 at *
      generalize servedB g (1 + t) B z true = sb at *
      generalize nsB (1 + t) z sb = nb at *
      have z1 : decide ((k : Int) < (n : Int)) = true := decide_eq_true (by omega)
      have z2 : decide (k < n) = true := decide_eq_true hlt
      have z3 : decide ((k : Int) < 60) = true := decide_eq_true (by omega)
      have z4 : decide (k < 60) = true := decide_eq_true h60
      have j0 : (0 : Int) ≤ (k : Int) := Int.natCast_nonneg _
      have j1 : (k : Int) < (n : Int) := by omega
      clear hxn
      go_wp2_with (go_at_call 72; refine MW.out.mono ?_; rintro r w3 ⟨rfl, H3⟩)
      go_roundw
      case rel => exact ⟨k + 1, B2, by omega, by omega, by go_num, H3.out, HID.out⟩
      case measure => simp [intOf]; omega
    · have hex : (decide ((k : Int) < (n : Int)) = true ∧ decide (k < n) = true ∧ decide ((k : Int) < 60) = false) ∨ (decide ((k : Int) < (n : Int)) = false ∧ decide (k < n) = false) := by
        by_cases hlt : k < n
        · exact .inl ⟨decide_eq_true (by omega), decide_eq_true hlt, decide_eq_false (by omega)⟩
        · exact .inr ⟨decide_eq_false (by omega), decide_eq_false hlt⟩
      have q0 := HB.out.1.at_.bench.q0
      have c0 := HB.out.1.at_.bench.c0
      have hmn := HB.out.1.mn
      have hmn0 := HB.out.1.near.q.mn0
      obtain ⟨v, hv⟩ : ∃ v, v = max (0 : Int) (B.X.mn - (c : Int)) := ⟨_, rfl⟩
      have hv1 : B.X.mn - (c : Int) ≤ v := by omega
      have hv2 : v ≤ B.X.mn := by omega
      have hv0 : 0 ≤ v := by omega
      obtain ⟨mn, hmnn⟩ : ∃ mn, mn = B.X.mn := ⟨_, rfl⟩
      have MN : Hid (∀ W, Below wr.heap.size wr W → Calls Try.prog 35 #[.pointer (some ⟨q, 0, none⟩)] W fun e w' => e = .returned (.int .i64 mn) ∧ W = w') := Lib.hid fun W hW => by
        rw [hmnn]
        exact qn_min (HB.out.1.below hW).at_.new
      have MK : Hid (∀ W, Below wr.heap.size wr W → Calls Try.prog 73 #[.int .i64 0, .int .i64 mn, .int .i64 c] W fun e w' => e = .returned (.int .i64 v) ∧ Hid (Bst ⟨w1, []⟩ w' p q c g (1 + t) k B)) := Lib.hid fun W hW => by
        rw [hmnn, hv]
        exact (wake_in 0 B.X.mn c (by omega) (by omega) (by omega) (by omega) W).mono fun e w' hp => ⟨hp.1, (HB.out.1.below hW).below hp.2⟩
      clear hmnn hv
      -- the two join
      have HJ := Lib.hid (HB.out.1.near.join HT.out (HB.out.1.mnb (by omega)) (i := 8) (n := 8) (by omega) (by omega) (by omega) (fun e he => HB.out.2 e he) (wt := x) hha hv1 hv2)
      have M14 : Hid (∀ W, Bst ⟨w1, []⟩ W p q c g (1 + t) k B → Calls Try.prog 32 #[.pointer (some ⟨q, 0, none⟩), .agg #[.int .i64 8, .int .u64 x, .int .i64 v, .int .u64 0]] W fun r w' => r = .returned (.int .i64 0) ∧ Hid (Bst ⟨w1, []⟩ w' p q c g (1 + t) (k + 1) ⟨putQ B.X ⟨8, x, v, 0⟩, B.own⟩)) := Lib.hid fun W hW =>
        bst_join hW HT.out (by omega) (i := 8) (n := 8) rfl (by omega) (by omega) (by omega) (fun e he => HB.out.2 e he) hha hv1 hv2 (by omega) W (Below.refl _ _)
      obtain ⟨B3, hB3⟩ : ∃ B3 : BS, B3 = ⟨putQ B.X ⟨8, x, v, 0⟩, B.own⟩ := ⟨_, rfl⟩
      rw [← hB3] at M14
      have hi3 : ∀ e, e ∈ B3.X.L → e.id < ((9 : Nat) : Int) := by rw [hB3]; exact HJ.out.2.2.2.2.2
      have hs8 : (⟨8, x, v, 0⟩ : En) ∈ B3.X.L := by rw [hB3]; exact HJ.out.2.2.2.1
      have hm3 : B3.X.mn = B.X.mn := by rw [hB3]; exact HJ.out.2.2.1
      have hn3 : NearB c g (1 + t) B3 := by rw [hB3]; exact HJ.out.2.1
      have HJ2 := Lib.hid (hn3.join HT.out (by have := HB.out.1.mnb (by omega); omega) (i := 9) (n := 9) (by omega) (by omega) (by omega) hi3 (wt := y) hhb (by omega) (by omega : v ≤ B3.X.mn))
      have M15 : Hid (∀ W, Bst ⟨w1, []⟩ W p q c g (1 + t) (k + 1) B3 → Calls Try.prog 32 #[.pointer (some ⟨q, 0, none⟩), .agg #[.int .i64 9, .int .u64 y, .int .i64 v, .int .u64 0]] W fun r w' => r = .returned (.int .i64 0) ∧ Hid (Bst ⟨w1, []⟩ w' p q c g (1 + t) (k + 2) ⟨putQ B3.X ⟨9, y, v, 0⟩, B3.own⟩)) := Lib.hid fun W hW =>
        bst_join hW HT.out (by omega) (i := 9) (n := 9) rfl (by omega) (by omega) (by omega) hi3 hhb (by omega) (by omega) (by omega) W (Below.refl _ _)
      obtain ⟨B4, hB4⟩ : ∃ B4 : BS, B4 = ⟨putQ B3.X ⟨9, y, v, 0⟩, B3.own⟩ := ⟨_, rfl⟩
      rw [← hB4] at M15
      have H2 : Hid (Two ⟨pickQ B4.X g, B4.own⟩ v x y 0 0 0) := Lib.hid (by
        refine ⟨⟨⟨8, x, v, 0⟩, ?_, rfl, rfl, by simp⟩, ⟨⟨9, y, v, 0⟩, ?_, rfl, rfl, by simp⟩, by omega, by omega⟩
        · show _ ∈ B4.X.L
          rw [hB4]
          exact HJ2.out.2.2.2.2.1 _ hs8
        · show _ ∈ B4.X.L
          rw [hB4]
          exact HJ2.out.2.2.2.1)
      clear hB3 hB4 hi3 hs8 hm3 hn3 HJ HJ2 hv1 hv2 hmn hmn0
      rcases hex with ⟨z1, z2, z3⟩ | ⟨z1, z2⟩
      all_goals
        go_wp2_with fail
        apply wp_region_to (fun W => Hid (Bst ⟨w1, []⟩ W p q c g (1 + t) k B))
        case h =>
          go_region_with (first
            | (go_at_call 35; refine (MN.out _ (by first | exact (Below.refl _ _).drew | exact Below.refl _ _)).mono ?_; rintro r w' ⟨rfl, rfl⟩)
            | (go_at_call 73; refine (MK.out _ (by first | exact (Below.refl _ _).drew | exact Below.refl _ _)).mono ?_; rintro r w' ⟨rfl, HBK⟩))
          all_goals exact ⟨rfl, HBK⟩
        rintro W5 HB5
        obtain ⟨y0, y1⟩ := HWB.out _ HB5.out.at_.base
        have q5 := HB5.out.at_.bench.q0
        clear q0 c0
        go_wp2_with fail
        refine (MHA.out _).mono ?_
        rintro r w' ⟨rfl, rfl⟩
        go_wp2_with fail
        refine (MHB.out _).mono ?_
        rintro r w' ⟨rfl, rfl⟩
        go_wp2_with fail
        refine (M14.out _ HB5.out).mono ?_
        rintro r w6 ⟨rfl, HB6⟩
        have q6 := HB6.out.at_.bench.q0
        go_wp2_with fail
        refine (M15.out _ HB6.out).mono ?_
        rintro r w7 ⟨rfl, HB7⟩
        have q7 := HB7.out.at_.bench.q0
        have g7 := HB7.out.at_.bench.g0
        go_wp2_with fail
        have MP := Lib.hid (bst_pick HB7.out HT.out)
        clear q5 q6 y0 y1 M14 M15
        apply wp_region_to (fun W => Hid (Bst ⟨w1, []⟩ W p q c g (1 + t) (k + 2) ⟨pickQ B4.X g, B4.own⟩))
        case h =>
          go_region_with (go_at_call 44; refine (MP.out _ (by first | exact (Below.refl _ _).drew | exact Below.refl _ _)).mono ?_; rintro r w7 ⟨rfl, HB8⟩)
          all_goals exact ⟨rfl, HB8⟩
        rintro W8 HB8
        clear q7 g7 MP HB7 HB6 HB5
        go_wp2_with fail
        go_loopw [17, 18, 19] (fun s17 s18 s19 wr => ∃ (j : Nat) (B : BS) (sa sb : Nat), j ≤ n' ∧ j ≤ 150 ∧ s17 = .int .u64 sa ∧ s18 = .int .u64 sb ∧ s19 = .int .i64 j ∧ Hid (Bst ⟨w1, []⟩ wr p q c g (1 + t) (k + 2 + j) B) ∧ Hid (Two B v x y j sa sb)) (fun _ _ s19 _ => n' - (intOf s19).toNat)
        case atStart => exact ⟨0, _, 0, 0, by omega, by omega, rfl, rfl, rfl, HB8, H2⟩
        case round =>
          obtain ⟨j, B9, sa, sb, hj, hj150, rfl, rfl, rfl, H9, HTW⟩ := hrel
          clear HB8 H2
          by_cases hgo : j < n' ∧ j < 150
          · obtain ⟨hlt, h150⟩ := hgo
            have hk1 : j < ys.length := by rw [← HN'.out]; exact hlt
            obtain ⟨b, off, rfl, hb, hcc⟩ := HU'.out.at_ (by omega)
            have hBw := HB1.out.trans (H9.out.at_.base.mono HB1.out.size)
            obtain ⟨x0, x1, x2, x3, x4⟩ := (hcc j hk1).below hBw hb
            have hxn := HX'.out (ys.getD j WK.nil) (by rw [getD_wk ys hk1]; exact List.getElem_mem _)
            clear hcc hBw hk1
            generalize ys.getD j WK.nil = z at *
            have MW := Lib.hid (bst_work H9.out HT.out (by omega) z hxn true)
            obtain ⟨wh, hwh⟩ : ∃ wh, wh = servedB g (1 + t) B9 z true := ⟨_, rfl⟩
            obtain ⟨nb, hnb⟩ : ∃ nb, nb = nsB (1 + t) z wh := ⟨_, rfl⟩
            obtain ⟨sa2, hsa2⟩ : ∃ sa2, sa2 = if wh = 8 then sa + nb else sa := ⟨_, rfl⟩
            obtain ⟨sb2, hsb2⟩ : ∃ sb2, sb2 = if wh = 9 then sb + nb else sb := ⟨_, rfl⟩
            have HTW2 := Lib.hid (HTW.out.work H9.out HT.out (by omega) z hwh hnb hsa2 hsb2)
            have hn2 := ((H9.out.near).work HT.out (H9.out.mnb (by omega)) z true).1
            rw [← hwh, ← hnb] at MW
            generalize workB c g (1 + t) B9 z true = B10 at *
            have hal := HTW2.out.al
            have hbl := HTW2.out.bl
            have hgap := serv_gap (c := c) (g := g) (t := 1 + t) hn2.q HTW2.out.a HTW2.out.b
            have hq1 : mdQ sa2 1024 x = sa2 * 1024 / x := by unfold mdQ; rw [if_pos (by omega)]
            have hq2 : mdQ sb2 1024 y = sb2 * 1024 / y := by unfold mdQ; rw [if_pos (by omega)]
            have hp1 : sa2 * 1024 / x ≤ sa2 * 1024 := Nat.div_le_self _ _
            have hp2 : sb2 * 1024 / y ≤ sb2 * 1024 := Nat.div_le_self _ _
            obtain ⟨qa, hqa⟩ : ∃ qa, qa = sa2 * 1024 / x := ⟨_, rfl⟩
            obtain ⟨qb, hqb⟩ : ∃ qb, qb = sb2 * 1024 / y := ⟨_, rfl⟩
            rw [← hqa, ← hqb] at hgap
            rw [← hqa] at hq1 hp1
            rw [← hqb] at hq2 hp2
            have M1 : Hid (∀ W, Calls Try.prog 46 #[.int .u64 sa2, .int .u64 1024, .int .u64 x] W fun r w5 => ∃ a b, r = .returned (.tuple #[.int .u64 (qa : Nat), a, b]) ∧ Below W.heap.size W w5) := Lib.hid fun W => (mulDiv_any sa2 1024 x (by omega) (by omega) (by omega) W).mono fun r w5 hp => ⟨_, _, by rw [← hq1]; exact hp.1, hp.2⟩
            have M2 : Hid (∀ W, Calls Try.prog 46 #[.int .u64 sb2, .int .u64 1024, .int .u64 y] W fun r w5 => ∃ a b, r = .returned (.tuple #[.int .u64 (qb : Nat), a, b]) ∧ Below W.heap.size W w5) := Lib.hid fun W => (mulDiv_any sb2 1024 y (by omega) (by omega) (by omega) W).mono fun r w5 hp => ⟨_, _, by rw [← hq2]; exact hp.1, hp.2⟩
            clear hqa hqb hq1 hq2 hn2 hnb hwh
            have hcase : (wh = 8 ∧ IntKind.u64.wrap ((sa : Int) + (nb : Int)) = (sa2 : Int) ∧ sb2 = sb) ∨ (wh = 9 ∧ sa2 = sa ∧ IntKind.u64.wrap ((sb : Int) + (nb : Int)) = (sb2 : Int)) ∨ ((decide (wh = 8) = false ∧ (wh == 8) = false ∧ decide (wh = 9) = false ∧ (wh == 9) = false) ∧ sa2 = sa ∧ sb2 = sb) := by
              by_cases h8 : wh = 8
              · rw [if_pos h8] at hsa2
                rw [if_neg (by omega)] at hsb2
                exact .inl ⟨h8, by rw [IntKind.wrap_u64]; omega, hsb2⟩
              · rw [if_neg h8] at hsa2
                by_cases h9 : wh = 9
                · rw [if_pos h9] at hsb2
                  exact .inr (.inl ⟨h9, hsa2, by rw [IntKind.wrap_u64]; omega⟩)
                · rw [if_neg h9] at hsb2
                  exact .inr (.inr ⟨⟨decide_eq_false h8, beq_eq_false_iff_ne.2 h8, decide_eq_false h9, beq_eq_false_iff_ne.2 h9⟩, hsa2, hsb2⟩)
            have z1 : decide ((j : Int) < (n' : Int)) = true := decide_eq_true (by omega)
            have z2 : decide (j < n') = true := decide_eq_true hlt
            have z3 : decide ((j : Int) < 150) = true := decide_eq_true (by omega)
            have z4 : decide (j < 150) = true := decide_eq_true h150
            have j0 : (0 : Int) ≤ (j : Int) := Int.natCast_nonneg _
            have j1 : (j : Int) < (n' : Int) := by omega
            clear hxn hsa2 hsb2
            rcases hcase with ⟨rfl, w8, rfl⟩ | ⟨rfl, rfl, w9⟩ | ⟨⟨d1, d2, d3, d4⟩, rfl, rfl⟩
            all_goals
              go_wp2_with fail
              refine MW.out.mono ?_
              rintro r w3 ⟨rfl, H3⟩
              go_wp2_with fail
              refine (M1.out _).mono ?_
              rintro r w5 ⟨a1, b1, rfl, hb5⟩
              go_wp2_with fail
              refine (M2.out _).mono ?_
              rintro r w6 ⟨a2, b2, rfl, hb6⟩
              go_wp2_with fail
              have H6 := Lib.hid ((H3.out.below hb5).below hb6)
              have c0 := H6.out.at_.bench.c0
              have g0 := H6.out.at_.bench.g0
              obtain ⟨gp, hgp⟩ : ∃ gp : Int, gp = max (qa : Int) (qb : Int) - min (qa : Int) (qb : Int) := ⟨_, rfl⟩
              rw [← hgp]
              obtain ⟨mo, hmo⟩ : ∃ mo : Int, mo = ((16 * (1 + t) : Nat) : Int) := ⟨_, rfl⟩
              have MO : Hid (∀ i, Calls Try.prog 74 #[.pointer (some ⟨p, 0, none⟩)] (World.drewN w6 i) fun e w' => e = .returned (.int .i64 mo) ∧ World.drewN w6 i = w') := Lib.hid fun i => by
                rw [hmo]
                exact most_any p q B10.own c g (1 + t) (by omega) (World.drewN w6 i) (H6.out.below (below_drewN (Below.refl _ _) i)).at_.bench
              obtain ⟨h1, hh1⟩ : ∃ h1, h1 = (c : Int) + (g : Int) := ⟨_, rfl⟩
              obtain ⟨h2, hh2⟩ : ∃ h2, h2 = h1 + mo := ⟨_, rfl⟩
              have e2 : IntKind.i64.wrap ((c : Int) + (g : Int)) = h1 := by rw [IntKind.wrap_i64]; omega
              have e3 : IntKind.i64.wrap (h1 + mo) = h2 := by rw [IntKind.wrap_i64]; omega
              have d2 : decide (h2 < gp) = false := decide_eq_false (by omega)
              clear hmo hh1 hh2 hgp hgap hal hbl hp1 hp2 M1 M2 MW
              go_big_quiet ((go_at_call 74; exact quiet_left (MO.out _)))
              go_wp2_with fail
              go_roundw
              case rel => exact ⟨j + 1, B10, _, _, by omega, by omega, rfl, rfl, by go_num, H6.out.below (below_drewN (Below.refl _ _) _), HTW2⟩
              case measure => simp [intOf]; omega
          · have hex : (decide ((j : Int) < (n' : Int)) = true ∧ decide (j < n') = true ∧ decide ((j : Int) < 150) = false) ∨ (decide ((j : Int) < (n' : Int)) = false ∧ decide (j < n') = false) := by
              by_cases hlt : j < n'
              · exact .inl ⟨decide_eq_true (by omega), decide_eq_true hlt, decide_eq_false (by omega)⟩
              · exact .inr ⟨decide_eq_false (by omega), decide_eq_false hlt⟩
            have HBEL := Lib.hid (HB1.out.trans (H9.out.at_.base.mono HB1.out.size))
            rcases hex with ⟨z1, z2, z3⟩ | ⟨z1, z2⟩
            all_goals
              go_wp2_with fail
              go_ret
              exact ⟨rfl, HBEL.out⟩

set_option maxRecDepth 100000 in
theorem lifted (os : Os) (started : os.Started) (H : Type) (enc : TypeId × Value → H) :
    ReturnsInHanded {} Try.checked os 18 .any (Rows.runqFairSpec.pre6 enc Try.prog Try.f18 Rows.runqFairRow.domain false) (Rows.runqFairSpec.post enc Try.prog Try.f18 false true false false) := by
  refine returnsInHanded_of_change (C := Try.checked) own started (by as_aux_lemma => kernel_rfl) Try.func18
    (ChangeSpec.witness6 (enc := enc) (C := Try.checked) false ⟨#[], #[.agg #[.int .u16 0, .int .u16 0, .int .u16 0], .agg #[.slice none 0 0, .slice none 0 0], .agg #[.int .u32 0, .int .u32 0]], []⟩ 8 (by as_aux_lemma => kernel_rfl) (by as_aux_lemma => kernel_rfl) (by as_aux_lemma => kernel_rfl) (by as_aux_lemma => kernel_rfl)) ?_
  intro W base args ds gs before hval0 hW hcnd _
  have hval : ∀ (j : Nat) t v, Try.f18.params[j]? = some t → args[j]? = some v → Value.okWide Try.prog W .any base t v := hval0
  have hW' := hW
  obtain ⟨p, q, hA0, hV, rfl, hfz, hnd⟩ := hW
  have hA : DataW.TrodAll enc Try.prog W 0 (fun _ => true) true Try.f18.params.toList args.toList ds p := hA0
  rw [Try.params18] at hA hval
  obtain ⟨v0, vs0, d0, ds0, p0, q0, hargs, rfl, rfl, h0, r0⟩ := trodAll_cons hA
  obtain ⟨v1, vs1, d1, ds1, p1, q1, rfl, rfl, rfl, h1, r1⟩ := trodAll_cons r0
  obtain ⟨v2, vs2, d2, ds2, p2, q2, rfl, rfl, rfl, h2, r2⟩ := trodAll_cons r1
  obtain ⟨rfl, rfl, rfl⟩ := trodAll_nil r2
  obtain rfl : args = #[v0, v1, v2] := by cases args; simp_all
  obtain ⟨ac0, ag0, at0, rfl, bc0, bg0, bt0⟩ := open_terms (hval 0 111 v0 rfl rfl) h0
  obtain ⟨A1, AA1, axs1, ays1, acc1, add1, rfl, Ud1, Ue1, Xd1, Xe1, Ld1, Le1⟩ := open_both (hval 1 113 v1 rfl rfl) h1
  obtain ⟨aa2, ab2, rfl, ba2, bb2⟩ := open_two (hval 2 114 v2 rfl rfl) h2
  refine (walk ac0 ag0 at0 A1 AA1 axs1 ays1 acc1 add1 aa2 ab2 bc0 bg0 bt0 ba2 bb2 W Ud1 Ue1 Xd1 Xe1 Ld1 Le1).mono fun e W' ⟨he, bel⟩ => ?_
  subst he
  exact ⟨_, rfl, law_post laidOut (by as_aux_lemma => kernel_rfl) rfl Try.underlying4 rfl (fun ds hds => by
    match ds, hds with
    | [x0, x1, x2], _ => rfl) hW' bel⟩

theorem closed : joinedFacts Try.prog 18 Try.f18 Rows.runqFairSpec Rows.runqFairRow = true := by
  unfold joinedFacts
  simp only [Bool.and_eq_true]
  exact ⟨⟨⟨⟨⟨⟨⟨⟨⟨⟨⟨⟨⟨⟨⟨⟨⟨⟨⟨⟨⟨⟨⟨⟨⟨⟨⟨⟨⟨⟨⟨(by as_aux_lemma => kernel_rfl), laidOut⟩, mapsRowedT⟩, (by as_aux_lemma => kernel_rfl)⟩, (by as_aux_lemma => kernel_rfl)⟩, rfl⟩, stopsN⟩, rfl⟩, stopKnobsN⟩, (by as_aux_lemma => kernel_rfl)⟩, (by as_aux_lemma => kernel_rfl)⟩, (by as_aux_lemma => kernel_rfl)⟩, (by as_aux_lemma => kernel_rfl)⟩, (by as_aux_lemma => kernel_rfl)⟩, (by as_aux_lemma => kernel_rfl)⟩, (by as_aux_lemma => kernel_rfl)⟩, (by as_aux_lemma => kernel_rfl)⟩, (by as_aux_lemma => kernel_rfl)⟩, (by as_aux_lemma => kernel_rfl)⟩, (by as_aux_lemma => kernel_rfl)⟩, (by as_aux_lemma => kernel_rfl)⟩, (by as_aux_lemma => kernel_rfl)⟩, plainKeysT⟩, rfl⟩, stopsHeardT⟩, mayEnterT⟩, liftedT⟩, makeT⟩, (by as_aux_lemma => kernel_rfl)⟩, (by as_aux_lemma => kernel_rfl)⟩, (by as_aux_lemma => kernel_rfl)⟩, (by as_aux_lemma => kernel_rfl)⟩

theorem over : Rows.runqFairRow.holds Try.pinned (OpenSpec.ofChange Rows.runqFairSpec) :=
  OpenClaim.holds_of_wide 18 Try.f18 rfl rfl rfl rfl rfl rfl rfl ⟨rfl, rfl, rfl, rfl, rfl⟩ rfl rfl rfl rfl rfl (by as_aux_lemma => kernel_rfl) Try.func18 closed
    (of_decide_eq_true (by as_aux_lemma => kernel_rfl)) (by unfold Func.isWrapper; first | (rw [if_pos (by decide +kernel)]; as_aux_lemma => kernel_rfl) | (rw [if_neg (by decide +kernel)]; exact ⟨rfl, rfl⟩))
    (fun os started H enc _ => lifted os started H enc)

theorem proved : Rows.RunqFairSaid := over
#print axioms proved

end runqFair

end Go.Proofs.Ytkemhcokkaanfaa
