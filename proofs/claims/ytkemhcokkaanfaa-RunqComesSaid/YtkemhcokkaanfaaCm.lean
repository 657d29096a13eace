/-
  RunqComes: one that stays is current before each other one, who may sleep and wake, was served for more than the credit and the granularity allow, and one charge.
-/
import Derived.Test.YtkemhcokkaanfaaBp
import Derived.Test.YtkemhcokkaanfaaWk4
namespace Go.Proofs.Ytkemhcokkaanfaa
open Go.ChangeShapes Go.WideShapes Go.ChangeAt Go.RowKit Go.Deep Go.Maps

namespace runqComes
/-- what each of eight was served, in memory -/
structure SvAt (W : World) (b : Nat) (sv : Nat → Nat) : Prop where
  blk : ∃ cs, Blk W b cs 126 ∧ cs.size = 8
  at_ : ∀ i, i < 8 → W.cell? ⟨b, i, none⟩ = some (.int .u64 (sv i))
theorem SvAt.of {W W' : World} {b : Nat} {sv : Nat → Nat} (h : SvAt W b sv) (e : W'.heap[b]? = W.heap[b]?) : SvAt W' b sv := by
  obtain ⟨cs, h1, h2⟩ := h.blk
  refine ⟨⟨cs, h1.of e, h2⟩, fun i hi => ?_⟩
  have := h.at_ i hi
  unfold World.cell? at *
  rw [e]
  exact this
theorem SvAt.eq {W : World} {b : Nat} {sv sv' : Nat → Nat} (h : SvAt W b sv) (e : ∀ i, i < 8 → sv' i = sv i) : SvAt W b sv' := ⟨h.blk, fun i hi => by rw [e i hi]; exact h.at_ i hi⟩
theorem SvAt.lt {W : World} {b : Nat} {sv : Nat → Nat} (h : SvAt W b sv) : b < W.heap.size := by
  obtain ⟨cs, h1, _⟩ := h.blk
  exact h1.lt
theorem SvAt.frozen {W : World} {b : Nat} {sv : Nat → Nat} (h : SvAt W b sv) : ∀ j, W.frozen? ⟨b, j, none⟩ = false := by
  obtain ⟨cs, h1, _⟩ := h.blk
  exact Blk.frozen h1
theorem SvAt.set {W : World} {b : Nat} {sv : Nat → Nat} (h : SvAt W b sv) {i : Nat} (hi : i < 8) (s : Nat) : SvAt (W.setCell ⟨b, i, none⟩ (.int .u64 s)) b (fun j => if j = i then s else sv j) := by
  obtain ⟨cs, h1, h2⟩ := h.blk
  have hn := Blk.set h1 i (.int .u64 s)
  refine ⟨⟨_, hn, by simp [h2]⟩, fun j hj => ?_⟩
  rw [Blk.cell hn]
  by_cases he : j = i
  · subst he
    rw [if_pos rfl, Array.getElem?_setIfInBounds_self_of_lt (by omega)]
  · rw [if_neg he, Array.getElem?_setIfInBounds_ne (by omega), ← Blk.cell h1]
    exact h.at_ j hj
theorem servT_le {sv : Nat → Nat} {wh : Int} {n i a b : Nat} (h : sv i ≤ a) (hn : n ≤ b) : servT sv wh n i ≤ a + b := by
  unfold servT
  split <;> omega
theorem under_zero {d : Int} {e : En} (he : (0 : Int) ≤ e.wt) : Under d 0 e := by
  unfold Under
  have h1 : (0 : Int) ≤ max e.v d - d := by omega
  have h2 := Int.mul_nonneg h1 he
  omega

set_option maxRecDepth 100000 in
set_option maxHeartbeats 64000000 in
theorem walk (c g t : Nat) (A A' : Option Addr) (xs ys : List WK) (cc cc' : Nat) (wa : Nat) (hc : c < 65536) (hg : g < 65536) (ht : t < 65536) (hwa : wa < 4294967296) (w : World) (hU : RowW w w.heap.size A xs) (hU' : RowW w w.heap.size A' ys) (hX : ∀ x ∈ xs, x.num) (hX' : ∀ x ∈ ys, x.num) (hL : xs.length ≤ 9223372036854775807) (hL' : ys.length ≤ 9223372036854775807) :
    Calls Try.prog 19 #[.agg #[.int .u16 c, .int .u16 g, .int .u16 t], .agg #[.slice A xs.length cc, .slice A' ys.length cc'], .int .u32 wa] w fun e w' => e = .returned (.bool true) ∧ Below w.heap.size w w' := by
  have HT : Hid (Terms (c : Int) (g : Int) (1 + t)) := Lib.hid ⟨by omega, by omega, by omega, by omega, by omega, by omega⟩
  have HU := Lib.hid hU
  have HX := Lib.hid hX
  have HU' := Lib.hid hU'
  have HX' := Lib.hid hX'
  clear hU hX hU' hX'
  obtain ⟨n, hn⟩ : ∃ n, n = xs.length := ⟨_, rfl⟩
  obtain ⟨n', hn'⟩ : ∃ n', n' = ys.length := ⟨_, rfl⟩
  rw [← hn] at hL ⊢
  rw [← hn'] at hL' ⊢
  have HN := Lib.hid hn
  have HN' := Lib.hid hn'
  clear hn hn'
  have MS := Lib.hid fun W => set_any c g t hc hg ht W
  have MHA := Lib.hid fun W => heavy_any wa hwa W
  have hha := heavyN_in wa
  generalize heavyN wa = x at *
  obtain ⟨W3, hW3, hb3, hs3, m1, m2⟩ := boxes2 w #[.int .u16 c, .int .u16 g, .int .u16 t] #[.slice A n cc, .slice A' n' cc'] 111 113
  have HW3 := Lib.hid hW3
  have HM := Lib.hid m1
  have HB3 := Lib.hid (And.intro hb3 hs3)
  clear hW3 m1 m2 hb3 hs3
  go_enter Try.func19, Try.ntmps19
  go_wp2_with fail
  rw [← HW3.out]
  refine (awake08 _).mono ?_
  rintro r w1 ⟨rfl, hb1⟩
  have y0 : w1.cell? ⟨w.heap.size, 0, none⟩ = some (.int .u16 c) := Blk.cell (HM.out.below hb1 HM.out.lt) 0
  have y1 : w1.cell? ⟨w.heap.size, 1, none⟩ = some (.int .u16 g) := Blk.cell (HM.out.below hb1 HM.out.lt) 1
  have y2 : w1.cell? ⟨w.heap.size, 2, none⟩ = some (.int .u16 t) := Blk.cell (HM.out.below hb1 HM.out.lt) 2
  have HB1 : Hid (Below w.heap.size w w1) := Lib.hid (HB3.out.1.trans (hb1.mono HB3.out.1.size))
  clear hb1
  go_wp2_with (go_at_call 71; refine (MS.out _).mono ?_; rintro r w2 ⟨p, q, rfl, H2⟩)
  have HS := Lib.hid (bst_start H2.out HT.out)
  clear y0 y1 y2 H2 MS HM HB3 HW3
  go_loopw [11] (fun s11 wr => ∃ (k : Nat) (B : BS), k ≤ n ∧ k ≤ 60 ∧ s11 = .int .i64 k ∧ Hid (Bst ⟨w1, []⟩ wr p q c g (1 + t) k B ∧ ∀ e, e ∈ B.X.L → e.id < (8 : Int))) (fun s11 _ => n - (intOf s11).toNat)
  case atStart => exact ⟨0, _, by omega, by omega, rfl, HS.out, fun e he => by simp [aw0] at he⟩
  case round =>
    obtain ⟨k, B, hk, hk60, rfl, HB⟩ := hrel
    clear HS
    by_cases hgo : k < n ∧ k < 60
    · obtain ⟨hlt, h60⟩ := hgo
      have hk1 : k < xs.length := by rw [← HN.out]; exact hlt
      obtain ⟨b, off, rfl, hb, hcc⟩ := HU.out.at_ (by omega)
      have hBw := HB1.out.trans (HB.out.1.at_.base.mono HB1.out.size)
      obtain ⟨x0, x1, x2, x3, x4⟩ := (hcc k hk1).below hBw hb
      have hxn := HX.out (xs.getD k WK.nil) (by rw [getD_wk xs hk1]; exact List.getElem_mem _)
      clear hcc hBw hk1
      generalize xs.getD k WK.nil = z at *
      have MW := Lib.hid (bst_work HB.out.1 HT.out (by omega) z hxn true)
      have HID := Lib.hid (bst_ids HB.out.1 HT.out (by omega) z true (Int.le_refl _) HB.out.2)
      generalize workB c g (1 + t) B z true = B2 at *
      generalize servedB g (1 + t) B z true = sb at *
      generalize nsB (1 + t) z sb = nb at *
      have z1 : decide ((k : Int) < (n : Int)) = true := decide_eq_true (by omega)
      have z2 : decide (k < n) = true := decide_eq_true hlt
      have z3 : decide ((k : Int) < 60) = true := decide_eq_true (by omega)
      have z4 : decide (k < 60) = true := decide_eq_true h60
      have j0 : (0 : Int) ≤ (k : Int) := Int.natCast_nonneg _
      have j1 : (k : Int) < (n : Int) := by omega
      clear hxn
      go_wp2_with (go_at_call 72; refine MW.out.mono ?_; rintro r w3 ⟨rfl, H3⟩)
      go_roundw
      case rel => exact ⟨k + 1, B2, by omega, by omega, by go_num, H3.out, HID.out⟩
      case measure => simp [intOf]; omega
    · have hex : (decide ((k : Int) < (n : Int)) = true ∧ decide (k < n) = true ∧ decide ((k : Int) < 60) = false) ∨ (decide ((k : Int) < (n : Int)) = false ∧ decide (k < n) = false) := by
        by_cases hlt : k < n
        · exact .inl ⟨decide_eq_true (by omega), decide_eq_true hlt, decide_eq_false (by omega)⟩
        · exact .inr ⟨decide_eq_false (by omega), decide_eq_false hlt⟩
      have q0 := HB.out.1.at_.bench.q0
      have hmn0 := HB.out.1.near.q.mn0
      obtain ⟨mn, hmnn⟩ : ∃ mn, mn = B.X.mn := ⟨_, rfl⟩
      have MN : Hid (∀ W, Below wr.heap.size wr W → Calls Try.prog 35 #[.pointer (some ⟨q, 0, none⟩)] W fun e w' => e = .returned (.int .i64 mn) ∧ W = w') := Lib.hid fun W hW => by
        rw [hmnn]
        exact qn_min (HB.out.1.below hW).at_.new
      have HJ := Lib.hid (HB.out.1.near.join HT.out (HB.out.1.mnb (by omega)) (i := 8) (n := 8) (by omega) (by omega) (by omega) (fun e he => HB.out.2 e he) (wt := x) hha (v := mn) (by omega) (by omega))
      have M11 : Hid (∀ W, Below wr.heap.size wr W → Calls Try.prog 32 #[.pointer (some ⟨q, 0, none⟩), .agg #[.int .i64 8, .int .u64 x, .int .i64 mn, .int .u64 0]] W fun r w' => r = .returned (.int .i64 0) ∧ Hid (Bst ⟨w1, []⟩ w' p q c g (1 + t) (k + 1) ⟨putQ B.X ⟨8, x, mn, 0⟩, B.own⟩)) := Lib.hid fun W hW =>
        bst_join HB.out.1 HT.out (by omega) (i := 8) (n := 8) rfl (by omega) (by omega) (by omega) (fun e he => HB.out.2 e he) hha (by omega) (by omega) (by omega) W hW
      have HWT : Hid (Waits (pickQ (putQ B.X ⟨8, x, mn, 0⟩) g) mn) := Lib.hid ⟨HJ.out.2.2.1.trans hmnn.symm, _, HJ.out.2.2.2.1, rfl, rfl⟩
      obtain ⟨B3, hB3⟩ : ∃ B3 : BS, B3 = ⟨putQ B.X ⟨8, x, mn, 0⟩, B.own⟩ := ⟨_, rfl⟩
      rw [← hB3] at M11
      have hn3 : NearB c g (1 + t) B3 := by rw [hB3]; exact HJ.out.2.1
      have HPT : Hid (Pot (mn - (c : Int)) ⟨pickQ B3.X g, B3.own⟩ (fun _ => 0)) := Lib.hid ⟨fun i hi e he hei => under_zero (Int.natCast_nonneg _), fun i hi _ => under_zero (Int.natCast_nonneg _)⟩
      have HWT2 : Hid (Waits (pickQ B3.X g) mn) := Lib.hid (by rw [hB3]; exact HWT.out)
      clear hB3 hn3 HJ HWT hmnn hmn0
      rcases hex with ⟨z1, z2, z3⟩ | ⟨z1, z2⟩
      all_goals
        go_wp2_with fail
        apply wp_region_to (fun W => Hid (Bst ⟨w1, []⟩ W p q c g (1 + t) (k + 1) B3))
        case h =>
          go_region_with (first
            | (go_at_call 43; refine (MHA.out _).mono ?_; rintro r w' ⟨rfl, rfl⟩)
            | (go_at_call 35; refine (MN.out _ (by first | exact (Below.refl _ _).drew | exact Below.refl _ _)).mono ?_; rintro r w' ⟨rfl, rfl⟩)
            | (go_at_call 32; refine (M11.out _ (by first | exact (Below.refl _ _).drew | exact Below.refl _ _)).mono ?_; rintro r w6 ⟨rfl, HB6⟩))
          all_goals exact ⟨rfl, HB6⟩
        rintro W6 HB6
        have q6 := HB6.out.at_.bench.q0
        have g6 := HB6.out.at_.bench.g0
        have MP := Lib.hid (bst_pick HB6.out HT.out)
        clear q0 M11 MN
        go_wp2_with fail
        apply wp_region_to (fun W => Hid (Bst ⟨w1, []⟩ W p q c g (1 + t) (k + 1) ⟨pickQ B3.X g, B3.own⟩))
        case h =>
          go_region_with (go_at_call 44; refine (MP.out _ (by first | exact (Below.refl _ _).drew | exact Below.refl _ _)).mono ?_; rintro r w7 ⟨rfl, HB8⟩)
          all_goals exact ⟨rfl, HB8⟩
        rintro W8 HB8
        clear q6 g6 MP HB6
        go_wp2_with fail
        have HBA := Lib.hid (HB8.out.alloc (.cells #[.int .u64 0, .int .u64 0, .int .u64 0, .int .u64 0, .int .u64 0, .int .u64 0, .int .u64 0, .int .u64 0] 126))
        have HSV : Hid (SvAt (W8.alloc (.cells #[.int .u64 0, .int .u64 0, .int .u64 0, .int .u64 0, .int .u64 0, .int .u64 0, .int .u64 0, .int .u64 0] 126)) W8.heap.size (fun _ => 0)) := Lib.hid (by
          have hn := Blk.new W8 #[.int .u64 0, .int .u64 0, .int .u64 0, .int .u64 0, .int .u64 0, .int .u64 0, .int .u64 0, .int .u64 0] 126
          refine ⟨⟨_, hn, rfl⟩, fun i hi => ?_⟩
          rw [Blk.cell hn]
          rcases (show i = 0 ∨ i = 1 ∨ i = 2 ∨ i = 3 ∨ i = 4 ∨ i = 5 ∨ i = 6 ∨ i = 7 by omega) with rfl | rfl | rfl | rfl | rfl | rfl | rfl | rfl <;> rfl)
        have hbs : w1.heap.size ≤ W8.heap.size := HB8.out.at_.base.size
        obtain ⟨bs, hbsz⟩ : ∃ bs, bs = W8.heap.size := ⟨_, rfl⟩
        rw [← hbsz] at HBA HSV hbs ⊢
        clear hbsz
        go_loopw [13] (fun s13 wr => ∃ (j : Nat) (B : BS) (sv : Nat → Nat) (ob : Option Obj), j ≤ n' ∧ j ≤ 200 ∧ s13 = .int .i64 j ∧ Hid (Bst ⟨w1, [(bs, ob)]⟩ wr p q c g (1 + t) (k + 1 + j) B) ∧ Hid (Waits B.X mn) ∧ Hid (Pot (mn - (c : Int)) B sv) ∧ Hid (SvAt wr bs sv ∧ ∀ i, sv i ≤ j * 65536)) (fun s13 _ => n' - (intOf s13).toNat)
        case atStart => exact ⟨0, _, _, _, by omega, by omega, rfl, HBA, HWT2, HPT, HSV.out, fun i => by omega⟩
        case round =>
          obtain ⟨j, B9, sv, ob, hj, hj200, rfl, H9, HW9, HP9, HS9⟩ := hrel
          clear HB8 HBA HSV HWT2 HPT
          by_cases hgo : j < n' ∧ j < 200
          · obtain ⟨hlt, h200⟩ := hgo
            have hk1 : j < ys.length := by rw [← HN'.out]; exact hlt
            obtain ⟨b, off, rfl, hb, hcc⟩ := HU'.out.at_ (by omega)
            have hBw := HB1.out.trans (H9.out.at_.base.mono HB1.out.size)
            obtain ⟨x0, x1, x2, x3, x4⟩ := (hcc j hk1).below hBw hb
            have hxn := HX'.out (ys.getD j WK.nil) (by rw [getD_wk ys hk1]; exact List.getElem_mem _)
            clear hcc hBw hk1
            generalize ys.getD j WK.nil = z at *
            have z1 : decide ((j : Int) < (n' : Int)) = true := decide_eq_true (by omega)
            have z2 : decide (j < n') = true := decide_eq_true hlt
            have z3 : decide ((j : Int) < 200) = true := decide_eq_true (by omega)
            have z4 : decide (j < 200) = true := decide_eq_true h200
            have j0 : (0 : Int) ≤ (j : Int) := Int.natCast_nonneg _
            have j1 : (j : Int) < (n' : Int) := by omega
            have q9 := H9.out.at_.bench.q0
            have MC := Lib.hid (qn_cur H9.out.at_.new)
            obtain ⟨cu, hcu⟩ : ∃ cu, cu = B9.X.cur := ⟨_, rfl⟩
            rw [← hcu] at MC
            clear hcu
            by_cases hcur : cu = 8
            · subst hcur
              have HBEL := Lib.hid (HB1.out.trans (H9.out.at_.base.mono HB1.out.size))
              go_wp2_with (go_at_call 69; refine MC.out.mono ?_; rintro r w' ⟨rfl, rfl⟩)
              go_ret
              exact ⟨rfl, HBEL.out⟩
            · have c1 : decide (cu = 8) = false := decide_eq_false hcur
              have c2 : (cu == 8) = false := beq_eq_false_iff_ne.2 hcur
              clear hcur
              have hmb := H9.out.mnb (by omega)
              have hd9 : mn - (c : Int) = B9.X.mn - (c : Int) := by rw [HW9.out.1]
              have MW := Lib.hid (bst_work H9.out HT.out (by omega) z hxn false)
              obtain ⟨wh, hwh⟩ : ∃ wh, wh = servedB g (1 + t) B9 z false := ⟨_, rfl⟩
              obtain ⟨nb, hnb⟩ : ∃ nb, nb = nsB (1 + t) z wh := ⟨_, rfl⟩
              rw [← hwh, ← hnb] at MW
              by_cases h8 : wh = 8
              · subst h8
                clear hnb hwh hd9 hmb hxn
                go_wp2_with (first
                  | (go_at_call 69; refine MC.out.mono ?_; rintro r w' ⟨rfl, rfl⟩)
                  | (go_at_call 72; refine MW.out.mono ?_; rintro r w3 ⟨rfl, H3⟩))
                go_ret
                exact ⟨rfl, HB1.out.trans (H3.out.at_.base.mono HB1.out.size)⟩
              · have c3 : decide (wh = 8) = false := decide_eq_false h8
                have c4 : (wh == 8) = false := beq_eq_false_iff_ne.2 h8
                have HW2 := Lib.hid (HW9.out.work HT.out H9.out.near hmb z (by rw [← hwh]; exact h8))
                have HP2 := Lib.hid (HP9.out.work HT.out H9.out.near hmb z hd9)
                have hnt : z.ns % (1 + t + 1) ≤ 1 + t := Nat.le_of_lt_succ (Nat.mod_lt _ (by omega))
                have HSB : Hid (∀ i, servT sv wh (z.ns % (1 + t + 1)) i ≤ (j + 1) * 65536) := Lib.hid fun i => by
                  have := servT_le (wh := wh) (HS9.out.2 i) (Nat.le_trans hnt (show 1 + t ≤ 65536 by omega))
                  rw [Nat.add_mul, Nat.one_mul]
                  exact this
                have HSE : Hid (∀ i : Nat, wh ≠ (i : Int) → servT sv wh (z.ns % (1 + t + 1)) i = sv i) := Lib.hid fun i hi => if_neg hi
                have HSY : Hid (∀ i : Nat, wh = (i : Int) → servT sv wh (z.ns % (1 + t + 1)) i = sv i + z.ns % (1 + t + 1)) := Lib.hid fun i hi => if_pos hi
                have HSV : Hid (∀ i : Nat, i < 8 → wh = (i : Int) → ∃ e, e ∈ (workB c g (1 + t) B9 z false).X.L ∧ e.id = (i : Nat) ∧ sv i + z.ns % (1 + t + 1) ≤ ((((c : Int) + (g : Int) + 1).toNat * e.wt) / 1024 + (1 + t)) ∧ 64 ≤ e.wt ∧ e.wt ≤ 4095) := Lib.hid fun i hi hwi => HP9.out.served HT.out H9.out.near hmb z hd9 hi (hwh.symm.trans hwi)
                rw [← hwh] at HP2
                have HNB : Hid (∀ i : Nat, wh = (i : Int) → nb = z.ns % (1 + t + 1)) := Lib.hid fun i hi => by
                  rw [hnb]
                  unfold nsB
                  rw [if_neg (by omega)]
                clear h8 hd9 hmb hxn hnb hwh
                generalize workB c g (1 + t) B9 z false = B2 at *
                generalize hsv2 : servT sv wh (z.ns % (1 + t + 1)) = sv2 at *
                clear hsv2
                by_cases hin : ∃ i : Nat, i < 8 ∧ wh = (i : Int)
                · obtain ⟨i, hi, rfl⟩ := hin
                  obtain ⟨e, he, hei, hroom, hw1, hw2⟩ := HSV.out i hi rfl
                  have hs2 := HSY.out i rfl
                  have hnbe := HNB.out i rfl
                  rw [← hnbe] at hroom hs2 hnt
                  obtain ⟨s2, hs2e⟩ : ∃ s2, s2 = sv i + nb := ⟨_, rfl⟩
                  rw [← hs2e] at hroom hs2
                  have hsb := HSB.out i
                  rw [hs2] at hsb
                  have e1 : IntKind.u64.wrap ((sv i : Int) + (nb : Int)) = (s2 : Int) := by rw [IntKind.wrap_u64]; omega
                  have i0 : (0 : Int) ≤ (i : Int) := Int.natCast_nonneg _
                  have i1 : (i : Int) < 8 := by omega
                  have i2 : decide ((0 : Int) ≤ (i : Int)) = true := decide_eq_true (by omega)
                  have i3 : decide ((i : Int) < 8) = true := decide_eq_true (by omega)
                  have i4 : decide (i < 8) = true := decide_eq_true hi
                  have HFR : Hid (∀ W, Bst ⟨w1, [(bs, ob)]⟩ W p q c g (1 + t) (k + 1 + j + 1) B2 → SvAt W bs sv) := Lib.hid fun W hW => HS9.out.1.of ((hW.at_.keep (z := (bs, ob)) (by simp)).trans (H9.out.at_.keep (z := (bs, ob)) (by simp)).symm)
                  have HS2E := Lib.hid hs2e
                  have HS2 := Lib.hid hs2
                  have HRM := Lib.hid (And.intro hroom (And.intro hw1 hw2))
                  have HEM := Lib.hid (And.intro he hei)
                  clear hnt hnbe hroom hs2e hs2 hw1 hw2 he hei
                  go_wp2_with (first
                    | (go_at_call 69; refine MC.out.mono ?_; rintro r w' ⟨rfl, rfl⟩)
                    | (go_at_call 72; refine MW.out.mono ?_; rintro r w3 ⟨rfl, H3⟩; have hs3 := HFR.out _ H3.out; have y0 := hs3.at_ i hi; have pf := hs3.frozen; have hpb := H3.out.beside; have hpb1 : (p = bs) = False := eq_false hpb; have hpb2 : (bs = p) = False := eq_false (Ne.symm hpb); have q3 := H3.out.at_.bench.q0; have ow := (H3.out.at_.bench.own i hi).2.1))
                  obtain ⟨W4, hW4⟩ : ∃ W4, W4 = w3.setCell ⟨bs, i, none⟩ (.int .u64 (s2 : Nat)) := ⟨_, rfl⟩
                  rw [← hW4]
                  have hT4 : Turns [bs] w3 W4 := by rw [hW4]; exact (Turns.refl _ _).setCell (p := ⟨bs, i, none⟩) (.inl (by simp)) _
                  have H4 : Hid (Bst ⟨w1, [(bs, W4.heap[bs]?)]⟩ W4 p q c g (1 + t) (k + 1 + j + 1) B2) := Lib.hid (H3.out.kept hbs hT4 rfl)
                  have HS4 : Hid (SvAt W4 bs sv2) := Lib.hid (by
                    have := hs3.set hi s2
                    rw [← hW4] at this
                    refine this.eq fun l hl => ?_
                    by_cases hli : l = i
                    · rw [if_pos hli, hli]; exact HS2.out
                    · rw [if_neg hli]; exact HSE.out l (by omega))
                  clear hW4 hT4 y0 pf hpb hpb1 hpb2 q3 ow hs3 MC MW x0 x1 x2 x3 x4
                  refine (bst_ents H4.out).mono ?_
                  rintro r w5 ⟨A5, c5, rfl, H5⟩
                  have hlen := H5.out.2.1
                  obtain ⟨m, hm⟩ : ∃ m, m = B2.X.ents.length := ⟨_, rfl⟩
                  rw [← hm] at hlen ⊢
                  have HM := Lib.hid hm
                  clear hm
                  go_wp2_with fail
                  go_loopw [16, 18] (fun s16 s18 wr' => ∃ (l ww : Nat), l ≤ m ∧ s18 = .int .i64 l ∧ s16 = .int .u64 ww ∧ w5 = wr' ∧ Hid ((∀ l', l' < l → (B2.X.ents.getD l' En.nil).id ≠ (i : Int)) ∨ ww = e.wt)) (fun _ s18 _ => m - (intOf s18).toNat)
                  case atStart => exact ⟨0, _, by omega, rfl, rfl, rfl, .inl fun l' hl' => absurd hl' (by omega)⟩
                  case round =>
                    obtain ⟨l, ww, hl, rfl, rfl, rfl, HNO⟩ := hrel
                    by_cases hll : l < m
                    · have hlm : l < B2.X.ents.length := by rw [← HM.out]; exact hll
                      obtain ⟨b5, o5, rfl, hb5, hc5⟩ := H5.out.1.at_ (by omega)
                      obtain ⟨x0, x1, _, _⟩ := hc5 l hlm
                      have HEQ : Hid ((B2.X.ents.getD l En.nil).id = (i : Int) → (B2.X.ents.getD l En.nil).wt = e.wt) := Lib.hid fun h => by
                        rw [En.same H4.out.near.q.ok.ids (ents_mem H4.out.near.q.ok hlm) HEM.out.1 (h.trans HEM.out.2.symm)]
                      have HNX : Hid ((B2.X.ents.getD l En.nil).id ≠ (i : Int) → ((∀ l', l' < l + 1 → (B2.X.ents.getD l' En.nil).id ≠ (i : Int)) ∨ ww = e.wt)) := Lib.hid fun h => HNO.out.imp (fun hn l' hl' => by
                        by_cases hle : l' = l
                        · rw [hle]; exact h
                        · exact hn l' (by omega)) _root_.id
                      clear hc5 hlm
                      generalize (B2.X.ents.getD l En.nil).id = ei at *
                      generalize (B2.X.ents.getD l En.nil).wt = ew at *
                      have z5 : decide ((l : Int) < (m : Int)) = true := decide_eq_true (by omega)
                      have z6 : decide (l < m) = true := decide_eq_true hll
                      have l0 : (0 : Int) ≤ (l : Int) := Int.natCast_nonneg _
                      have l1 : (l : Int) < (m : Int) := by omega
                      by_cases hid : ei = (i : Int)
                      · have hew := HEQ.out hid
                        subst hid hew
                        have z7 : ((i : Int) == (i : Int)) = true := beq_self_eq_true _
                        clear HEQ HNX
                        go_wp2_with fail
                        go_roundw
                        case rel => exact ⟨l + 1, _, by omega, by go_num, rfl, by first | rfl | trivial, .inr rfl⟩
                        case measure => simp [intOf]; omega
                      · have z7 : decide (ei = (i : Int)) = false := decide_eq_false hid
                        have z8 : (ei == (i : Int)) = false := beq_eq_false_iff_ne.2 hid
                        have HN2 := Lib.hid (HNX.out hid)
                        clear HEQ HNX hid
                        go_wp2_with fail
                        go_roundw
                        case rel => exact ⟨l + 1, ww, by omega, by go_num, rfl, by first | rfl | trivial, HN2.out⟩
                        case measure => simp [intOf]; omega
                    · obtain rfl : l = m := by omega
                      have z5 : decide ((l : Int) < (l : Int)) = false := decide_eq_false (by omega)
                      have hww : ww = e.wt := by
                        rcases HNO.out with h | h
                        · obtain ⟨y, hy, hyi⟩ := (ents_ids H4.out.near.q.ok (i : Int)).2 ⟨e, by have := H4.out.near.q.ok.get HEM.out.1; rw [HEM.out.2] at this; exact this⟩
                          obtain ⟨l', hl', hle⟩ := List.mem_iff_getElem.1 hy
                          exact absurd (by rw [getD_at _ hl', hle]; exact hyi) (h l' (by rw [HM.out]; exact hl'))
                        · exact h
                      subst hww
                      obtain ⟨hroom, hw1, hw2⟩ := HRM.out
                      obtain ⟨a1, ha1⟩ : ∃ a1, a1 = c + g := ⟨_, rfl⟩
                      obtain ⟨a2, ha2⟩ : ∃ a2, a2 = a1 + 1 := ⟨_, rfl⟩
                      have hto : ((c : Int) + (g : Int) + 1).toNat = a2 := by omega
                      rw [hto] at hroom
                      generalize e.wt = wt at *
                      obtain ⟨pr, hpr⟩ : ∃ pr, pr = a2 * wt := ⟨_, rfl⟩
                      have hprb : pr ≤ 131071 * 4095 := by rw [hpr]; exact Nat.mul_le_mul (by omega) hw2
                      obtain ⟨room, hrm⟩ : ∃ room, room = pr / 1024 := ⟨_, rfl⟩
                      rw [← hpr, ← hrm] at hroom
                      obtain ⟨tk, htk⟩ : ∃ tk, tk = 1 + t := ⟨_, rfl⟩
                      rw [← htk] at hroom
                      obtain ⟨rt, hrt⟩ : ∃ rt, rt = room + tk := ⟨_, rfl⟩
                      have e1 : IntKind.i64.wrap ((c : Int) + (g : Int)) = (a1 : Int) := by rw [IntKind.wrap_i64]; omega
                      have e2 : IntKind.i64.wrap ((a1 : Int) + 1) = (a2 : Int) := by rw [IntKind.wrap_i64]; omega
                      have e3 : IntKind.u64.wrap (a2 : Int) = (a2 : Int) := by rw [IntKind.wrap_u64]; omega
                      have e4 : IntKind.u64.wrap ((a2 : Int) * (wt : Int)) = (pr : Int) := by
                        rw [← Int.natCast_mul, ← hpr, IntKind.wrap_u64]; omega
                      have e5 : (pr : Int) / 1024 = (room : Int) := by omega
                      have e5' : Int.tdiv (pr : Int) 1024 = (room : Int) := by rw [Int.tdiv_eq_ediv_of_nonneg (by omega)]; exact e5
                      have e6 : IntKind.u64.wrap ((room : Int) + (tk : Int)) = (rt : Int) := by rw [IntKind.wrap_u64]; omega
                      have e7 : IntKind.u64.wrap (room : Int) = (room : Int) := by rw [IntKind.wrap_u64]; omega
                      have hle : s2 ≤ rt := by have := HS2E.out; omega
                      have d1 : decide ((rt : Int) < (s2 : Int)) = false := decide_eq_false (by omega)
                      have d2 : decide (rt < s2) = false := decide_eq_false (by omega)
                      have H6 := Lib.hid (H4.out.below H5.out.2.2)
                      have HS6 : Hid (SvAt w5 bs sv2) := Lib.hid (HS4.out.of (H5.out.2.2.block _ HS4.out.lt))
                      have y0 := HS6.out.at_ i hi
                      rw [HS2.out] at y0
                      have c0 := H6.out.at_.bench.c0
                      have g0 := H6.out.at_.bench.g0
                      have t0 := H6.out.at_.bench.t0
                      rw [← htk] at t0
                      clear hto ha1 ha2 hpr hprb hrm htk hrt hroom hle HS2E
                      go_wp2_with fail
                      go_big_quiet (fail)
                      go_wp2_with fail
                      go_big_quiet (fail)
                      go_wp2_with fail
                      go_roundw
                      case rel => exact ⟨j + 1, B2, sv2, _, by omega, by omega, by go_num, H6.out.below (below_drewN (Below.refl _ _) _), HW2, HP2, HS6.out.of rfl, HSB.out⟩
                      case measure => simp [intOf]; omega
                · have hno : decide ((0 : Int) ≤ wh) = false ∨ (decide ((0 : Int) ≤ wh) = true ∧ decide (wh < 8) = false) := by
                    by_cases h0 : 0 ≤ wh
                    · refine .inr ⟨decide_eq_true h0, decide_eq_false fun h => hin ⟨wh.toNat, by omega, by omega⟩⟩
                    · exact .inl (decide_eq_false h0)
                  have HE : Hid (∀ i, i < 8 → sv2 i = sv i) := Lib.hid fun i hi => HSE.out i fun h => hin ⟨i, hi, h⟩
                  clear hin hnt
                  rcases hno with n1 | ⟨n1, n2⟩
                  all_goals
                    go_wp2_with (first
                      | (go_at_call 69; refine MC.out.mono ?_; rintro r w' ⟨rfl, rfl⟩)
                      | (go_at_call 72; refine MW.out.mono ?_; rintro r w3 ⟨rfl, H3⟩))
                    go_roundw
                    case rel => exact ⟨j + 1, B2, sv2, ob, by omega, by omega, by go_num, H3, HW2, HP2, (HS9.out.1.of ((H3.out.at_.keep (z := (bs, ob)) (by simp)).trans (H9.out.at_.keep (z := (bs, ob)) (by simp)).symm)).eq HE.out, HSB.out⟩
                    case measure => simp [intOf]; omega
          · have hex : (decide ((j : Int) < (n' : Int)) = true ∧ decide (j < n') = true ∧ decide ((j : Int) < 200) = false) ∨ (decide ((j : Int) < (n' : Int)) = false ∧ decide (j < n') = false) := by
              by_cases hlt : j < n'
              · exact .inl ⟨decide_eq_true (by omega), decide_eq_true hlt, decide_eq_false (by omega)⟩
              · exact .inr ⟨decide_eq_false (by omega), decide_eq_false hlt⟩
            have HBEL := Lib.hid (HB1.out.trans (H9.out.at_.base.mono HB1.out.size))
            rcases hex with ⟨z1, z2, z3⟩ | ⟨z1, z2⟩
            all_goals
              go_wp2_with fail
              go_ret
              exact ⟨rfl, HBEL.out⟩

set_option maxRecDepth 100000 in
theorem lifted (os : Os) (started : os.Started) (H : Type) (enc : TypeId × Value → H) :
    ReturnsInHanded {} Try.checked os 19 .any (Rows.runqComesSpec.pre6 enc Try.prog Try.f19 Rows.runqComesRow.domain false) (Rows.runqComesSpec.post enc Try.prog Try.f19 false true false false) := by
  refine returnsInHanded_of_change (C := Try.checked) own started (by as_aux_lemma => kernel_rfl) Try.func19
    (ChangeSpec.witness6 (enc := enc) (C := Try.checked) false ⟨#[], #[.agg #[.int .u16 0, .int .u16 0, .int .u16 0], .agg #[.slice none 0 0, .slice none 0 0], .int .u32 0], []⟩ 8 (by as_aux_lemma => kernel_rfl) (by as_aux_lemma => kernel_rfl) (by as_aux_lemma => kernel_rfl) (by as_aux_lemma => kernel_rfl)) ?_
  intro W base args ds gs before hval0 hW hcnd _
  have hval : ∀ (j : Nat) t v, Try.f19.params[j]? = some t → args[j]? = some v → Value.okWide Try.prog W .any base t v := hval0
  have hW' := hW
  obtain ⟨p, q, hA0, hV, rfl, hfz, hnd⟩ := hW
  have hA : DataW.TrodAll enc Try.prog W 0 (fun _ => true) true Try.f19.params.toList args.toList ds p := hA0
  rw [Try.params19] at hA hval
  obtain ⟨v0, vs0, d0, ds0, p0, q0, hargs, rfl, rfl, h0, r0⟩ := trodAll_cons hA
  obtain ⟨v1, vs1, d1, ds1, p1, q1, rfl, rfl, rfl, h1, r1⟩ := trodAll_cons r0
  obtain ⟨v2, vs2, d2, ds2, p2, q2, rfl, rfl, rfl, h2, r2⟩ := trodAll_cons r1
  obtain ⟨rfl, rfl, rfl⟩ := trodAll_nil r2
  obtain rfl : args = #[v0, v1, v2] := by cases args; simp_all
  obtain ⟨ac0, ag0, at0, rfl, bc0, bg0, bt0⟩ := open_terms (hval 0 111 v0 rfl rfl) h0
  obtain ⟨A1, AA1, axs1, ays1, acc1, add1, rfl, Ud1, Ue1, Xd1, Xe1, Ld1, Le1⟩ := open_both (hval 1 113 v1 rfl rfl) h1
  obtain ⟨a2, rfl, b2⟩ := open_u32 Try.underlying27 (hval 2 27 v2 rfl rfl) h2
  refine (walk ac0 ag0 at0 A1 AA1 axs1 ays1 acc1 add1 a2 bc0 bg0 bt0 b2 W Ud1 Ue1 Xd1 Xe1 Ld1 Le1).mono fun e W' ⟨he, bel⟩ => ?_
  subst he
  exact ⟨_, rfl, law_post laidOut (by as_aux_lemma => kernel_rfl) rfl Try.underlying4 rfl (fun ds hds => by
    match ds, hds with
    | [x0, x1, x2], _ => rfl) hW' bel⟩

theorem closed : joinedFacts Try.prog 19 Try.f19 Rows.runqComesSpec Rows.runqComesRow = true := by
  unfold joinedFacts
  simp only [Bool.and_eq_true]
  exact ⟨⟨⟨⟨⟨⟨⟨⟨⟨⟨⟨⟨⟨⟨⟨⟨⟨⟨⟨⟨⟨⟨⟨⟨⟨⟨⟨⟨⟨⟨⟨(by as_aux_lemma => kernel_rfl), laidOut⟩, mapsRowedT⟩, (by as_aux_lemma => kernel_rfl)⟩, (by as_aux_lemma => kernel_rfl)⟩, rfl⟩, stopsN⟩, rfl⟩, stopKnobsN⟩, (by as_aux_lemma => kernel_rfl)⟩, (by as_aux_lemma => kernel_rfl)⟩, (by as_aux_lemma => kernel_rfl)⟩, (by as_aux_lemma => kernel_rfl)⟩, (by as_aux_lemma => kernel_rfl)⟩, (by as_aux_lemma => kernel_rfl)⟩, (by as_aux_lemma => kernel_rfl)⟩, (by as_aux_lemma => kernel_rfl)⟩, (by as_aux_lemma => kernel_rfl)⟩, (by as_aux_lemma => kernel_rfl)⟩, (by as_aux_lemma => kernel_rfl)⟩, (by as_aux_lemma => kernel_rfl)⟩, (by as_aux_lemma => kernel_rfl)⟩, plainKeysT⟩, rfl⟩, stopsHeardT⟩, mayEnterT⟩, liftedT⟩, makeT⟩, (by as_aux_lemma => kernel_rfl)⟩, (by as_aux_lemma => kernel_rfl)⟩, (by as_aux_lemma => kernel_rfl)⟩, (by as_aux_lemma => kernel_rfl)⟩

theorem over : Rows.runqComesRow.holds Try.pinned (OpenSpec.ofChange Rows.runqComesSpec) :=
  OpenClaim.holds_of_wide 19 Try.f19 rfl rfl rfl rfl rfl rfl rfl ⟨rfl, rfl, rfl, rfl, rfl⟩ rfl rfl rfl rfl rfl (by as_aux_lemma => kernel_rfl) Try.func19 closed
    (of_decide_eq_true (by as_aux_lemma => kernel_rfl)) (by unfold Func.isWrapper; first | (rw [if_pos (by decide +kernel)]; as_aux_lemma => kernel_rfl) | (rw [if_neg (by decide +kernel)]; exact ⟨rfl, rfl⟩))
    (fun os started H enc _ => lifted os started H enc)

theorem proved : Rows.RunqComesSaid := over
#print axioms proved

end runqComes

end Go.Proofs.Ytkemhcokkaanfaa
