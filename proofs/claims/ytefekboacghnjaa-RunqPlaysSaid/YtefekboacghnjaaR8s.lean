/-
  RunqPlays: whatever is put, dropped, weighed, charged, picked and yields: the answers, and all of the queue: whatever deeds.
-/
import Derived.Test.YtefekboacghnjaaPg
namespace Go.Proofs.Ytefekboacghnjaa
open Go.ChangeShapes Go.WideShapes Go.ChangeAt Go.RowKit Go.Deep Go.Maps

namespace runqPlays
theorem start {w0 w2 w3 : World} {q : Nat} (h : QNew w0 w2 q ⟨[], -1, 0, false⟩ 1) (hb : Below w2.heap.size w2 w3) :
    RW w0 (w3.alloc (.cells #[.slice none 0 0, .int .i64 (-1), .int .i64 0, .bool false] 28)) w3.heap.size q none 0 ⟨[], -1, 0, false⟩ ⟨[], -1, 0, false⟩ 1 [] := by
  have hB : Below w2.heap.size w2 (w3.alloc (.cells #[.slice none 0 0, .int .i64 (-1), .int .i64 0, .bool false] 28)) := hb.alloc hb.size _
  obtain ⟨F, h1, h2, h3⟩ := h.ex
  exact ⟨⟨F, h1.below hB, h2.trans (hB.mono h2.size), h3, fun hm => by have := h1.lt _ hm; have := hb.size; omega, Nat.le_trans h2.size hb.size, fun a ha => by simp at ha, fun z hz => by simp at hz⟩, Blk.new _ _ _, .inl rfl, fun _ => ⟨rfl, rfl⟩, Nat.le_refl _⟩
theorem RW.cells {w0 w : World} {p q : Nat} {A : Option Addr} {c : Nat} {X Y : QS} {K : Int} {B : List (Nat × Option Obj)} (h : RW w0 w p q A c X Y K B) :
    w.cell? ⟨p, 0, none⟩ = some (.slice A Y.L.length c) ∧ w.cell? ⟨p, 1, none⟩ = some (.int .i64 Y.cur) ∧ w.cell? ⟨p, 2, none⟩ = some (.int .i64 Y.mn) ∧ w.cell? ⟨p, 3, none⟩ = some (.bool Y.over) ∧ ∀ j, w.frozen? ⟨p, j, none⟩ = false :=
  ⟨Blk.cell h.box 0, Blk.cell h.box 1, Blk.cell h.box 2, Blk.cell h.box 3, Blk.frozen h.box⟩
set_option maxRecDepth 100000 in
set_option maxHeartbeats 64000000 in
theorem walk (A : Option Addr) (xs : List Dd) (cc : Nat) (w : World) (hU : RowD w w.heap.size A xs) (hX : ∀ x ∈ xs, x.num) (hL : xs.length ≤ 9223372036854775807) :
    Calls Try.prog 3 #[.slice A xs.length cc] w fun e w' => e = .returned (.bool true) ∧ Below w.heap.size w w' := by
  have HU := Lib.hid hU
  have HX := Lib.hid hX
  clear hU hX
  obtain ⟨n, hn⟩ : ∃ n, n = xs.length := ⟨_, rfl⟩
  rw [← hn] at hL ⊢
  have HN := Lib.hid hn
  clear hn
  go_enter Try.func3, Try.ntmps3
  go_wp2_with fail
  refine (awake08 _).mono ?_
  rintro r w1 ⟨rfl, hb1⟩
  have HB1 := Lib.hid hb1
  clear hb1
  go_wp2_with fail
  refine (qn_new _).mono ?_
  rintro r w2 ⟨q, rfl, H2⟩
  go_wp2_with fail
  refine (rnew_any _).mono ?_
  rintro r w3 ⟨rfl, hb3⟩
  have HS := Lib.hid (start H2.out.1 hb3)
  clear H2
  go_wp2_with fail
  obtain ⟨w4, hw4⟩ : ∃ w4, w4 = w3.alloc (.cells #[.slice none 0 0, .int .i64 (-1), .int .i64 0, .bool false] 28) := ⟨_, rfl⟩
  rw [← hw4] at HS ⊢
  obtain ⟨p, hp⟩ : ∃ p, p = w3.heap.size := ⟨_, rfl⟩
  rw [← hp] at HS ⊢
  clear hw4 hp hb3
  go_loopw [6] (fun s6 wr => ∃ (k : Nat) (X : QS) (A5 : Option Addr) (c5 : Nat), k ≤ n ∧ k ≤ 150 ∧ s6 = .int .i64 k ∧ Hid (RW w1 wr p q A5 c5 X X (1 + 1000 * k) [] ∧ X.led)) (fun s6 _ => n - (intOf s6).toNat)
  case atStart => exact ⟨0, _, _, _, by omega, by omega, rfl, HS.out, fun k hk => by simp [ksOf] at hk⟩
  case round =>
    obtain ⟨k, X, A5, c5, hk, hk150, rfl, HR⟩ := hrel
    clear HS
    by_cases hgo : k < n ∧ k < 150
    · obtain ⟨hlt, h150⟩ := hgo
      have hk1 : k < xs.length := by rw [← HN.out]; exact hlt
      obtain ⟨b, off, rfl, hb, hcc⟩ := HU.out.at_ (by omega)
      have hBw := HB1.out.trans (HR.out.1.base.mono HB1.out.size)
      obtain ⟨x0, x1, x2, x3, x4, x5, x6⟩ := (hcc k hk1).below hBw hb
      have hxn := HX.out (xs.getD k Dd.nil) (by rw [List.getD_eq_getElem?_getD, List.getElem?_eq_getElem hk1]; exact List.getElem_mem _)
      clear hcc hBw hk1
      generalize xs.getD k Dd.nil = d at *
      obtain ⟨kd, ⟨ei, ew, ev, er⟩, ns, gr⟩ := d
      have HDN := Lib.hid hxn
      dsimp only at x0 x1 x2 x3 x4 x5 x6
      have z1 : decide ((k : Int) < (n : Int)) = true := decide_eq_true (by omega)
      have z2 : decide (k < n) = true := decide_eq_true hlt
      have z3 : decide ((k : Int) < 150) = true := decide_eq_true (by omega)
      have z4 : decide (k < 150) = true := decide_eq_true h150
      have j0 : (0 : Int) ≤ (k : Int) := Int.natCast_nonneg _
      have j1 : (k : Int) < (n : Int) := by omega
      obtain ⟨w5, hw5⟩ : ∃ w5, w5 = wr.alloc (.cells #[.int .i64 kd, .int .i64 ei, .int .u64 ew, .int .i64 ev, .int .u64 er, .int .u64 ns, .int .i64 gr] 34) := ⟨_, rfl⟩
      have hR5 : RW w1 w5 p q A5 c5 X X (1 + 1000 * k) [(wr.heap.size, some (.cells #[.int .i64 kd, .int .i64 ei, .int .u64 ew, .int .i64 ev, .int .u64 er, .int .u64 ns, .int .i64 gr] 34))] := by rw [hw5]; exact HR.out.1.alloc _
      have HKD : Hid (∀ (W : World) (X' Y' : QS) (K' : Int) (A' : Option Addr) (c' : Nat), RW w1 W p q A' c' X' Y' K' [(wr.heap.size, some (.cells #[.int .i64 kd, .int .i64 ei, .int .u64 ew, .int .i64 ev, .int .u64 er, .int .u64 ns, .int .i64 gr] 34))] →
          W.cell? ⟨wr.heap.size, 0, none⟩ = some (.int .i64 kd) ∧ W.cell? ⟨wr.heap.size, 1, none⟩ = some (.int .i64 ei) ∧ W.cell? ⟨wr.heap.size, 2, none⟩ = some (.int .u64 ew) ∧ W.cell? ⟨wr.heap.size, 3, none⟩ = some (.int .i64 ev) ∧ W.cell? ⟨wr.heap.size, 4, none⟩ = some (.int .u64 er) ∧ W.cell? ⟨wr.heap.size, 5, none⟩ = some (.int .u64 ns) ∧ W.cell? ⟨wr.heap.size, 6, none⟩ = some (.int .i64 gr)) := Lib.hid fun W X' Y' K' A' c' hW => by
        have hB : Blk W wr.heap.size #[.int .i64 kd, .int .i64 ei, .int .u64 ew, .int .i64 ev, .int .u64 er, .int .u64 ns, .int .i64 gr] 34 := (hW.keep (List.mem_singleton.2 rfl)).2
        exact ⟨Blk.cell hB 0, Blk.cell hB 1, Blk.cell hB 2, Blk.cell hB 3, Blk.cell hB 4, Blk.cell hB 5, Blk.cell hB 6⟩
      have hok := hR5.ok
      have hled := HR.out.2
      obtain ⟨d0, d1, d2, d3, d4, d5, d6⟩ := HKD.out _ _ _ _ _ _ hR5
      have HLT := Lib.hid (And.intro hlt h150)
      clear hlt h150 hxn
      by_cases c0 : kd = 0
      · have t0 : (kd == 0) = true := by rw [beq_iff_eq]; exact c0
        have u0 : decide (kd = 0) = true := decide_eq_true c0
        clear c0
        have hR6 := rw_put hR5 (by omega) ⟨ei, ew, ev, er⟩ HDN.out.e
        obtain ⟨an, han⟩ : ∃ an, an = putC X ⟨ei, ew, ev, er⟩ := ⟨_, rfl⟩
        rw [← han] at hR6
        obtain ⟨X2, hX2⟩ : ∃ X2, X2 = putQ X ⟨ei, ew, ev, er⟩ := ⟨_, rfl⟩
        rw [← hX2] at hR6
        have HL2 : Hid X2.led := Lib.hid (by rw [hX2]; exact led_putQ hled)
        have HOK := Lib.hid hok
        have HLED := Lib.hid hled
        have MR : Hid (∀ W, RQ W W.heap.size A5 c5 X.L → Calls Try.prog 14 #[rqV A5 X.L.length c5 X.cur X.mn X.over, enV ⟨ei, ew, ev, er⟩] W fun r w' => ∃ A' c', r = .returned (.tuple #[rqV A' X2.L.length c' X2.cur X2.mn X2.over, .int .i64 an]) ∧ Hid (RfRes W w' A5 A' c' X X2)) := Lib.hid fun W hW => by
          rw [hX2, han]
          exact rf_put A5 c5 X HOK.out ⟨ei, ew, ev, er⟩ HDN.out.e W hW
        have MQ := Lib.hid hR6
        clear hR6 hR5 hX2 han hok hled
        obtain ⟨nn, hnn⟩ : ∃ nn, nn = X.L.length := ⟨_, rfl⟩
        obtain ⟨n2, hn2⟩ : ∃ n2, n2 = X2.L.length := ⟨_, rfl⟩
        have HNN := Lib.hid (And.intro hnn hn2)
        rw [← hnn, ← hn2] at MR
        clear hnn hn2
        go_wp2_with fail
        rw [← hw5]
        refine MQ.out.mono ?_
        rintro r w6 ⟨rfl, H6⟩
        obtain ⟨y0, y1, y2, y3, fy⟩ := RW.cells H6.out
        obtain ⟨e0, e1, e2, e3, e4, e5, e6⟩ := HKD.out _ _ _ _ _ _ H6.out
        rw [← HNN.out.1] at y0
        clear x0 x1 x2 x3 x4 x5 x6 d0 d1 d2 d3 d4 d5 d6 MQ
        go_wp2_with fail
        refine (MR.out w6 H6.out.row).mono ?_
        rintro r w7 ⟨A7, c7, rfl, H7⟩
        have hbx7 := H6.out.box.below H7.out.res.bel H6.out.box.lt
        have g0 : w7.cell? ⟨p, 0, none⟩ = some (.slice A5 X.L.length c5) := Blk.cell hbx7 0
        have g1 : w7.cell? ⟨p, 1, none⟩ = some (.int .i64 X.cur) := Blk.cell hbx7 1
        have g2 : w7.cell? ⟨p, 2, none⟩ = some (.int .i64 X.mn) := Blk.cell hbx7 2
        have g3 : w7.cell? ⟨p, 3, none⟩ = some (.bool X.over) := Blk.cell hbx7 3
        have fg := Blk.frozen hbx7
        have hp7 : p < w7.heap.size := Nat.lt_of_lt_of_le H6.out.box.lt H7.out.res.bel.size
        have hpne : (p = w7.heap.size) = False := eq_false (by omega)
        have hpne2 : (w7.heap.size = p) = False := eq_false (by omega)
        have hpne3 : (p = w7.heap.size + 1) = False := eq_false (by omega)
        have hpne4 : (w7.heap.size + 1 = p) = False := eq_false (by omega)
        clear y0 y1 y2 y3 fy e0 e1 e2 e3 e4 e5 e6 MR hbx7
        go_wp2_with fail
        obtain ⟨w8, hw8⟩ : ∃ w8, w8 = (((w7.setCell ⟨p, 0, none⟩ (.slice A7 n2 c7)).setCell ⟨p, 1, none⟩ (.int .i64 X2.cur)).setCell ⟨p, 2, none⟩ (.int .i64 X2.mn)).setCell ⟨p, 3, none⟩ (.bool X2.over) := ⟨_, rfl⟩
        rw [← hw8]
        have hR8 := H6.out.stored H7.out (Below.refl _ _) HNN.out.2
        rw [← hw8] at hR8
        obtain ⟨w9, hw9⟩ : ∃ w9, w9 = w8.alloc (.cells #[.slice A7 n2 c7, .int .i64 X2.cur, .int .i64 X2.mn, .bool X2.over] 28) := ⟨_, rfl⟩
        rw [← hw9]
        have hR9 := (hR8.below (show Below w8.heap.size w8 w9 by rw [hw9]; exact (Below.refl _ _).alloc (Nat.le_refl _) _)).less
        have MS := same_any hR9
        rw [← HNN.out.2] at MS
        refine MS.mono ?_
        rintro r w10 ⟨rfl, hb10⟩
        have HEND := Lib.hid (hR9.below hb10)
        clear hw8 hR8 hw9 hR9 MS hb10 hw5 H6 H7 g0 g1 g2 g3 fg hpne hpne2 hpne3 hpne4 hp7 HKD HNN HOK HLED HDN
        go_wp2_with fail
        go_roundw
        case rel => exact ⟨k + 1, X2, A7, c7, by have := HLT.out.1; omega, by have := HLT.out.2; omega, by go_num, (HEND.out.mono (by push_cast; omega) (by push_cast; omega)), HL2.out⟩
        case measure => simp [intOf]; omega
      have t0 : (kd == 0) = false := by rw [beq_eq_false_iff_ne]; exact c0
      have u0 : decide (kd = 0) = false := decide_eq_false c0
      clear c0
      by_cases c1 : kd = 1
      · have t1 : (kd == 1) = true := by rw [beq_iff_eq]; exact c1
        have u1 : decide (kd = 1) = true := decide_eq_true c1
        clear c1
        have hR6 := rw_drop hR5 (by omega) ei HDN.out.e.i1 HDN.out.e.i2
        rw [(drop_all hok ei).2.2.2.2] at hR6
        obtain ⟨an, han⟩ : ∃ an, an = dropR X.L ei := ⟨_, rfl⟩
        obtain ⟨ae, hae⟩ : ∃ ae, ae = dropE X.L ei := ⟨_, rfl⟩
        rw [← han, ← hae] at hR6
        obtain ⟨X2, hX2⟩ : ∃ X2, X2 = dropQ X ei := ⟨_, rfl⟩
        rw [← hX2] at hR6
        have HL2 : Hid X2.led := Lib.hid (by rw [hX2]; exact led_dropQ hled ei)
        have HOK := Lib.hid hok
        have HLED := Lib.hid hled
        have MR : Hid (∀ W, RQ W W.heap.size A5 c5 X.L → Calls Try.prog 16 #[rqV A5 X.L.length c5 X.cur X.mn X.over, .int .i64 ei] W fun r w' => ∃ A' c', r = .returned (.tuple #[rqV A' X2.L.length c' X2.cur X2.mn X2.over, enV ae, .int .i64 an]) ∧ Hid (RfRes W w' A5 A' c' X X2)) := Lib.hid fun W hW => by
          rw [hX2, han, hae]
          exact rf_drop A5 c5 X HOK.out ei W hW
        have MQ := Lib.hid hR6
        clear hR6 hR5 hX2 han hae hok hled
        obtain ⟨a0, a1, a2, a3⟩ := ae
        obtain ⟨nn, hnn⟩ : ∃ nn, nn = X.L.length := ⟨_, rfl⟩
        obtain ⟨n2, hn2⟩ : ∃ n2, n2 = X2.L.length := ⟨_, rfl⟩
        have HNN := Lib.hid (And.intro hnn hn2)
        rw [← hnn, ← hn2] at MR
        clear hnn hn2
        go_wp2_with fail
        rw [← hw5]
        refine MQ.out.mono ?_
        rintro r w6 ⟨rfl, H6⟩
        obtain ⟨y0, y1, y2, y3, fy⟩ := RW.cells H6.out
        obtain ⟨e0, e1, e2, e3, e4, e5, e6⟩ := HKD.out _ _ _ _ _ _ H6.out
        rw [← HNN.out.1] at y0
        clear x0 x1 x2 x3 x4 x5 x6 d0 d1 d2 d3 d4 d5 d6 MQ
        have hp6 : p < w6.heap.size := H6.out.box.lt
        have hd6 : wr.heap.size < w6.heap.size := (H6.out.keep (List.mem_singleton.2 rfl)).1
        have hn1 : (p = w6.heap.size) = False := eq_false (by omega)
        have hn2' : (w6.heap.size = p) = False := eq_false (by omega)
        have hn3 : (wr.heap.size = w6.heap.size) = False := eq_false (by omega)
        have hn4 : (w6.heap.size = wr.heap.size) = False := eq_false (by omega)
        go_wp2_with fail
        obtain ⟨w6a, hw6a⟩ : ∃ w6a, w6a = w6.alloc (.cells #[.int .i64 a0, .int .u64 a1, .int .i64 a2, .int .u64 a3] 32) := ⟨_, rfl⟩
        rw [← hw6a]
        have hb6a : Below w6.heap.size w6 w6a := by rw [hw6a]; exact (Below.refl _ _).alloc (Nat.le_refl _) _
        have H6a := Lib.hid (H6.out.below hb6a)
        have hk6a : Blk w6a w6.heap.size #[.int .i64 a0, .int .u64 a1, .int .i64 a2, .int .u64 a3] 32 := by rw [hw6a]; exact Blk.new _ _ _
        clear hw6a hb6a
        refine (MR.out w6a H6a.out.row).mono ?_
        rintro r w7 ⟨A7, c7, rfl, H7⟩
        have hk7 := hk6a.below H7.out.res.bel hk6a.lt
        have l0 : w7.cell? ⟨w6.heap.size, 0, none⟩ = some (.int .i64 a0) := Blk.cell hk7 0
        have l1 : w7.cell? ⟨w6.heap.size, 1, none⟩ = some (.int .u64 a1) := Blk.cell hk7 1
        have l2 : w7.cell? ⟨w6.heap.size, 2, none⟩ = some (.int .i64 a2) := Blk.cell hk7 2
        have l3 : w7.cell? ⟨w6.heap.size, 3, none⟩ = some (.int .u64 a3) := Blk.cell hk7 3
        have hl7 : w6.heap.size < w7.heap.size := hk7.lt
        have hn5 : (w6.heap.size = w7.heap.size) = False := eq_false (by omega)
        have hn6 : (w7.heap.size = w6.heap.size) = False := eq_false (by omega)
        have hn7 : (w6.heap.size = w7.heap.size + 1) = False := eq_false (by omega)
        have hn8 : (w7.heap.size + 1 = w6.heap.size) = False := eq_false (by omega)
        clear H6 hk7 hk6a
        rename Hid (RW w1 w6a p q A5 c5 X2 X _ _) => H6
        have hbx7 := H6.out.box.below H7.out.res.bel H6.out.box.lt
        have g0 : w7.cell? ⟨p, 0, none⟩ = some (.slice A5 X.L.length c5) := Blk.cell hbx7 0
        have g1 : w7.cell? ⟨p, 1, none⟩ = some (.int .i64 X.cur) := Blk.cell hbx7 1
        have g2 : w7.cell? ⟨p, 2, none⟩ = some (.int .i64 X.mn) := Blk.cell hbx7 2
        have g3 : w7.cell? ⟨p, 3, none⟩ = some (.bool X.over) := Blk.cell hbx7 3
        have fg := Blk.frozen hbx7
        have hp7 : p < w7.heap.size := Nat.lt_of_lt_of_le H6.out.box.lt H7.out.res.bel.size
        have hpne : (p = w7.heap.size) = False := eq_false (by omega)
        have hpne2 : (w7.heap.size = p) = False := eq_false (by omega)
        have hpne3 : (p = w7.heap.size + 1) = False := eq_false (by omega)
        have hpne4 : (w7.heap.size + 1 = p) = False := eq_false (by omega)
        clear y0 y1 y2 y3 fy e0 e1 e2 e3 e4 e5 e6 MR hbx7
        go_wp2_with fail
        obtain ⟨w8, hw8⟩ : ∃ w8, w8 = (((w7.setCell ⟨p, 0, none⟩ (.slice A7 n2 c7)).setCell ⟨p, 1, none⟩ (.int .i64 X2.cur)).setCell ⟨p, 2, none⟩ (.int .i64 X2.mn)).setCell ⟨p, 3, none⟩ (.bool X2.over) := ⟨_, rfl⟩
        rw [← hw8]
        have hR8 := H6.out.stored H7.out (Below.refl _ _) HNN.out.2
        rw [← hw8] at hR8
        obtain ⟨w9, hw9⟩ : ∃ w9, w9 = (w8.alloc (.cells #[.slice A7 n2 c7, .int .i64 X2.cur, .int .i64 X2.mn, .bool X2.over] 28)).alloc (.cells #[.int .i64 a0, .int .u64 a1, .int .i64 a2, .int .u64 a3] 32) := ⟨_, rfl⟩
        rw [← hw9]
        have hR9 := (hR8.below (show Below w8.heap.size w8 w9 by rw [hw9]; exact ((Below.refl _ _).alloc (Nat.le_refl _) _).alloc (by simp) _)).less
        have MS := same_any hR9
        rw [← HNN.out.2] at MS
        refine MS.mono ?_
        rintro r w10 ⟨rfl, hb10⟩
        have HEND := Lib.hid (hR9.below hb10)
        clear hw8 hR8 hw9 hR9 MS hb10 hw5 H6 H7 g0 g1 g2 g3 fg hpne hpne2 hpne3 hpne4 hp7 HKD l0 l1 l2 l3 hl7 hn1 hn2' hn3 hn4 hn5 hn6 hn7 hn8 hp6 hd6 HNN HOK HLED HDN
        go_wp2_with fail
        go_roundw
        case rel => exact ⟨k + 1, X2, A7, c7, by have := HLT.out.1; omega, by have := HLT.out.2; omega, by go_num, (HEND.out.mono (by push_cast; omega) (by push_cast; omega)), HL2.out⟩
        case measure => simp [intOf]; omega
      have t1 : (kd == 1) = false := by rw [beq_eq_false_iff_ne]; exact c1
      have u1 : decide (kd = 1) = false := decide_eq_false c1
      clear c1
      by_cases c2 : kd = 2
      · have t2 : (kd == 2) = true := by rw [beq_iff_eq]; exact c2
        have u2 : decide (kd = 2) = true := decide_eq_true c2
        clear c2
        have hR6 := rw_weigh hR5 ei HDN.out.e.i1 HDN.out.e.i2 ew HDN.out.e.w2
        obtain ⟨an, han⟩ : ∃ an, an = weighC X ei ew := ⟨_, rfl⟩
        rw [← han] at hR6
        obtain ⟨X2, hX2⟩ : ∃ X2, X2 = weighQ X ei ew := ⟨_, rfl⟩
        rw [← hX2] at hR6
        have HL2 : Hid X2.led := Lib.hid (by rw [hX2]; exact led_weigh hok hled ei ew)
        have HOK := Lib.hid hok
        have HLED := Lib.hid hled
        have MR : Hid (∀ W, RQ W W.heap.size A5 c5 X.L → Calls Try.prog 18 #[rqV A5 X.L.length c5 X.cur X.mn X.over, .int .i64 ei, .int .u64 ew] W fun r w' => ∃ A' c', r = .returned (.tuple #[rqV A' X2.L.length c' X2.cur X2.mn X2.over, .int .i64 an]) ∧ Hid (RfRes W w' A5 A' c' X X2)) := Lib.hid fun W hW => by
          rw [hX2, han]
          exact rf_weigh A5 c5 X HOK.out HLED.out ei ew HDN.out.e.w2 W hW
        have MQ := Lib.hid hR6
        clear hR6 hR5 hX2 han hok hled
        obtain ⟨nn, hnn⟩ : ∃ nn, nn = X.L.length := ⟨_, rfl⟩
        obtain ⟨n2, hn2⟩ : ∃ n2, n2 = X2.L.length := ⟨_, rfl⟩
        have HNN := Lib.hid (And.intro hnn hn2)
        rw [← hnn, ← hn2] at MR
        clear hnn hn2
        go_wp2_with fail
        rw [← hw5]
        refine MQ.out.mono ?_
        rintro r w6 ⟨rfl, H6⟩
        obtain ⟨y0, y1, y2, y3, fy⟩ := RW.cells H6.out
        obtain ⟨e0, e1, e2, e3, e4, e5, e6⟩ := HKD.out _ _ _ _ _ _ H6.out
        rw [← HNN.out.1] at y0
        clear x0 x1 x2 x3 x4 x5 x6 d0 d1 d2 d3 d4 d5 d6 MQ
        go_wp2_with fail
        refine (MR.out w6 H6.out.row).mono ?_
        rintro r w7 ⟨A7, c7, rfl, H7⟩
        have hbx7 := H6.out.box.below H7.out.res.bel H6.out.box.lt
        have g0 : w7.cell? ⟨p, 0, none⟩ = some (.slice A5 X.L.length c5) := Blk.cell hbx7 0
        have g1 : w7.cell? ⟨p, 1, none⟩ = some (.int .i64 X.cur) := Blk.cell hbx7 1
        have g2 : w7.cell? ⟨p, 2, none⟩ = some (.int .i64 X.mn) := Blk.cell hbx7 2
        have g3 : w7.cell? ⟨p, 3, none⟩ = some (.bool X.over) := Blk.cell hbx7 3
        have fg := Blk.frozen hbx7
        have hp7 : p < w7.heap.size := Nat.lt_of_lt_of_le H6.out.box.lt H7.out.res.bel.size
        have hpne : (p = w7.heap.size) = False := eq_false (by omega)
        have hpne2 : (w7.heap.size = p) = False := eq_false (by omega)
        have hpne3 : (p = w7.heap.size + 1) = False := eq_false (by omega)
        have hpne4 : (w7.heap.size + 1 = p) = False := eq_false (by omega)
        clear y0 y1 y2 y3 fy e0 e1 e2 e3 e4 e5 e6 MR hbx7
        go_wp2_with fail
        obtain ⟨w8, hw8⟩ : ∃ w8, w8 = (((w7.setCell ⟨p, 0, none⟩ (.slice A7 n2 c7)).setCell ⟨p, 1, none⟩ (.int .i64 X2.cur)).setCell ⟨p, 2, none⟩ (.int .i64 X2.mn)).setCell ⟨p, 3, none⟩ (.bool X2.over) := ⟨_, rfl⟩
        rw [← hw8]
        have hR8 := H6.out.stored H7.out (Below.refl _ _) HNN.out.2
        rw [← hw8] at hR8
        obtain ⟨w9, hw9⟩ : ∃ w9, w9 = w8.alloc (.cells #[.slice A7 n2 c7, .int .i64 X2.cur, .int .i64 X2.mn, .bool X2.over] 28) := ⟨_, rfl⟩
        rw [← hw9]
        have hR9 := (hR8.below (show Below w8.heap.size w8 w9 by rw [hw9]; exact (Below.refl _ _).alloc (Nat.le_refl _) _)).less
        have MS := same_any hR9
        rw [← HNN.out.2] at MS
        refine MS.mono ?_
        rintro r w10 ⟨rfl, hb10⟩
        have HEND := Lib.hid (hR9.below hb10)
        clear hw8 hR8 hw9 hR9 MS hb10 hw5 H6 H7 g0 g1 g2 g3 fg hpne hpne2 hpne3 hpne4 hp7 HKD HNN HOK HLED HDN
        go_wp2_with fail
        go_roundw
        case rel => exact ⟨k + 1, X2, A7, c7, by have := HLT.out.1; omega, by have := HLT.out.2; omega, by go_num, (HEND.out.mono (by push_cast; omega) (by push_cast; omega)), HL2.out⟩
        case measure => simp [intOf]; omega
      have t2 : (kd == 2) = false := by rw [beq_eq_false_iff_ne]; exact c2
      have u2 : decide (kd = 2) = false := decide_eq_false c2
      clear c2
      by_cases c3 : kd = 3
      · have t3 : (kd == 3) = true := by rw [beq_iff_eq]; exact c3
        have u3 : decide (kd = 3) = true := decide_eq_true c3
        clear c3
        have hR6 := rw_charge hR5 (by omega) ns HDN.out.ns
        obtain ⟨an, han⟩ : ∃ an, an = chargeC X ns := ⟨_, rfl⟩
        rw [← han] at hR6
        obtain ⟨X2, hX2⟩ : ∃ X2, X2 = chargeQ X ns := ⟨_, rfl⟩
        rw [← hX2] at hR6
        have HL2 : Hid X2.led := Lib.hid (by rw [hX2]; exact led_charge hled ns)
        have HOK := Lib.hid hok
        have HLED := Lib.hid hled
        have MR : Hid (∀ W, RQ W W.heap.size A5 c5 X.L → Calls Try.prog 20 #[rqV A5 X.L.length c5 X.cur X.mn X.over, .int .u64 ns] W fun r w' => ∃ A' c', r = .returned (.tuple #[rqV A' X2.L.length c' X2.cur X2.mn X2.over, .int .i64 an]) ∧ Hid (RfRes W w' A5 A' c' X X2)) := Lib.hid fun W hW => by
          rw [hX2, han]
          exact rf_charge A5 c5 X HOK.out ns HDN.out.ns W hW
        have MQ := Lib.hid hR6
        clear hR6 hR5 hX2 han hok hled
        obtain ⟨nn, hnn⟩ : ∃ nn, nn = X.L.length := ⟨_, rfl⟩
        obtain ⟨n2, hn2⟩ : ∃ n2, n2 = X2.L.length := ⟨_, rfl⟩
        have HNN := Lib.hid (And.intro hnn hn2)
        rw [← hnn, ← hn2] at MR
        clear hnn hn2
        go_wp2_with fail
        rw [← hw5]
        refine MQ.out.mono ?_
        rintro r w6 ⟨rfl, H6⟩
        obtain ⟨y0, y1, y2, y3, fy⟩ := RW.cells H6.out
        obtain ⟨e0, e1, e2, e3, e4, e5, e6⟩ := HKD.out _ _ _ _ _ _ H6.out
        rw [← HNN.out.1] at y0
        clear x0 x1 x2 x3 x4 x5 x6 d0 d1 d2 d3 d4 d5 d6 MQ
        go_wp2_with fail
        refine (MR.out w6 H6.out.row).mono ?_
        rintro r w7 ⟨A7, c7, rfl, H7⟩
        have hbx7 := H6.out.box.below H7.out.res.bel H6.out.box.lt
        have g0 : w7.cell? ⟨p, 0, none⟩ = some (.slice A5 X.L.length c5) := Blk.cell hbx7 0
        have g1 : w7.cell? ⟨p, 1, none⟩ = some (.int .i64 X.cur) := Blk.cell hbx7 1
        have g2 : w7.cell? ⟨p, 2, none⟩ = some (.int .i64 X.mn) := Blk.cell hbx7 2
        have g3 : w7.cell? ⟨p, 3, none⟩ = some (.bool X.over) := Blk.cell hbx7 3
        have fg := Blk.frozen hbx7
        have hp7 : p < w7.heap.size := Nat.lt_of_lt_of_le H6.out.box.lt H7.out.res.bel.size
        have hpne : (p = w7.heap.size) = False := eq_false (by omega)
        have hpne2 : (w7.heap.size = p) = False := eq_false (by omega)
        have hpne3 : (p = w7.heap.size + 1) = False := eq_false (by omega)
        have hpne4 : (w7.heap.size + 1 = p) = False := eq_false (by omega)
        clear y0 y1 y2 y3 fy e0 e1 e2 e3 e4 e5 e6 MR hbx7
        go_wp2_with fail
        obtain ⟨w8, hw8⟩ : ∃ w8, w8 = (((w7.setCell ⟨p, 0, none⟩ (.slice A7 n2 c7)).setCell ⟨p, 1, none⟩ (.int .i64 X2.cur)).setCell ⟨p, 2, none⟩ (.int .i64 X2.mn)).setCell ⟨p, 3, none⟩ (.bool X2.over) := ⟨_, rfl⟩
        rw [← hw8]
        have hR8 := H6.out.stored H7.out (Below.refl _ _) HNN.out.2
        rw [← hw8] at hR8
        obtain ⟨w9, hw9⟩ : ∃ w9, w9 = w8.alloc (.cells #[.slice A7 n2 c7, .int .i64 X2.cur, .int .i64 X2.mn, .bool X2.over] 28) := ⟨_, rfl⟩
        rw [← hw9]
        have hR9 := (hR8.below (show Below w8.heap.size w8 w9 by rw [hw9]; exact (Below.refl _ _).alloc (Nat.le_refl _) _)).less
        have MS := same_any hR9
        rw [← HNN.out.2] at MS
        refine MS.mono ?_
        rintro r w10 ⟨rfl, hb10⟩
        have HEND := Lib.hid (hR9.below hb10)
        clear hw8 hR8 hw9 hR9 MS hb10 hw5 H6 H7 g0 g1 g2 g3 fg hpne hpne2 hpne3 hpne4 hp7 HKD HNN HOK HLED HDN
        go_wp2_with fail
        go_roundw
        case rel => exact ⟨k + 1, X2, A7, c7, by have := HLT.out.1; omega, by have := HLT.out.2; omega, by go_num, (HEND.out.mono (by push_cast; omega) (by push_cast; omega)), HL2.out⟩
        case measure => simp [intOf]; omega
      have t3 : (kd == 3) = false := by rw [beq_eq_false_iff_ne]; exact c3
      have u3 : decide (kd = 3) = false := decide_eq_false c3
      clear c3
      by_cases c4 : kd = 4
      · have t4 : (kd == 4) = true := by rw [beq_iff_eq]; exact c4
        have u4 : decide (kd = 4) = true := decide_eq_true c4
        clear c4
        have hR6 := rw_pick hR5 gr HDN.out.g1 HDN.out.g2
        obtain ⟨an, han⟩ : ∃ an, an = X.pickI gr := ⟨_, rfl⟩
        rw [← han] at hR6
        obtain ⟨X2, hX2⟩ : ∃ X2, X2 = pickQ X gr := ⟨_, rfl⟩
        rw [← hX2] at hR6
        have HL2 : Hid X2.led := Lib.hid (by rw [hX2]; exact led_pick hled gr)
        have HOK := Lib.hid hok
        have HLED := Lib.hid hled
        have MR : Hid (∀ W, RQ W W.heap.size A5 c5 X.L → Calls Try.prog 22 #[rqV A5 X.L.length c5 X.cur X.mn X.over, .int .i64 gr] W fun r w' => ∃ A' c', r = .returned (.tuple #[rqV A' X2.L.length c' X2.cur X2.mn X2.over, .int .i64 an]) ∧ Hid (RfRes W w' A5 A' c' X X2)) := Lib.hid fun W hW => by
          rw [hX2, han]
          exact rf_pick A5 c5 X HOK.out gr W hW
        have MQ := Lib.hid hR6
        clear hR6 hR5 hX2 han hok hled
        obtain ⟨nn, hnn⟩ : ∃ nn, nn = X.L.length := ⟨_, rfl⟩
        obtain ⟨n2, hn2⟩ : ∃ n2, n2 = X2.L.length := ⟨_, rfl⟩
        have HNN := Lib.hid (And.intro hnn hn2)
        rw [← hnn, ← hn2] at MR
        clear hnn hn2
        go_wp2_with fail
        rw [← hw5]
        refine MQ.out.mono ?_
        rintro r w6 ⟨rfl, H6⟩
        obtain ⟨y0, y1, y2, y3, fy⟩ := RW.cells H6.out
        obtain ⟨e0, e1, e2, e3, e4, e5, e6⟩ := HKD.out _ _ _ _ _ _ H6.out
        rw [← HNN.out.1] at y0
        clear x0 x1 x2 x3 x4 x5 x6 d0 d1 d2 d3 d4 d5 d6 MQ
        go_wp2_with fail
        refine (MR.out w6 H6.out.row).mono ?_
        rintro r w7 ⟨A7, c7, rfl, H7⟩
        have hbx7 := H6.out.box.below H7.out.res.bel H6.out.box.lt
        have g0 : w7.cell? ⟨p, 0, none⟩ = some (.slice A5 X.L.length c5) := Blk.cell hbx7 0
        have g1 : w7.cell? ⟨p, 1, none⟩ = some (.int .i64 X.cur) := Blk.cell hbx7 1
        have g2 : w7.cell? ⟨p, 2, none⟩ = some (.int .i64 X.mn) := Blk.cell hbx7 2
        have g3 : w7.cell? ⟨p, 3, none⟩ = some (.bool X.over) := Blk.cell hbx7 3
        have fg := Blk.frozen hbx7
        have hp7 : p < w7.heap.size := Nat.lt_of_lt_of_le H6.out.box.lt H7.out.res.bel.size
        have hpne : (p = w7.heap.size) = False := eq_false (by omega)
        have hpne2 : (w7.heap.size = p) = False := eq_false (by omega)
        have hpne3 : (p = w7.heap.size + 1) = False := eq_false (by omega)
        have hpne4 : (w7.heap.size + 1 = p) = False := eq_false (by omega)
        clear y0 y1 y2 y3 fy e0 e1 e2 e3 e4 e5 e6 MR hbx7
        go_wp2_with fail
        obtain ⟨w8, hw8⟩ : ∃ w8, w8 = (((w7.setCell ⟨p, 0, none⟩ (.slice A7 n2 c7)).setCell ⟨p, 1, none⟩ (.int .i64 X2.cur)).setCell ⟨p, 2, none⟩ (.int .i64 X2.mn)).setCell ⟨p, 3, none⟩ (.bool X2.over) := ⟨_, rfl⟩
        rw [← hw8]
        have hR8 := H6.out.stored H7.out (Below.refl _ _) HNN.out.2
        rw [← hw8] at hR8
        obtain ⟨w9, hw9⟩ : ∃ w9, w9 = w8.alloc (.cells #[.slice A7 n2 c7, .int .i64 X2.cur, .int .i64 X2.mn, .bool X2.over] 28) := ⟨_, rfl⟩
        rw [← hw9]
        have hR9 := (hR8.below (show Below w8.heap.size w8 w9 by rw [hw9]; exact (Below.refl _ _).alloc (Nat.le_refl _) _)).less
        have MS := same_any hR9
        rw [← HNN.out.2] at MS
        refine MS.mono ?_
        rintro r w10 ⟨rfl, hb10⟩
        have HEND := Lib.hid (hR9.below hb10)
        clear hw8 hR8 hw9 hR9 MS hb10 hw5 H6 H7 g0 g1 g2 g3 fg hpne hpne2 hpne3 hpne4 hp7 HKD HNN HOK HLED HDN
        go_wp2_with fail
        go_roundw
        case rel => exact ⟨k + 1, X2, A7, c7, by have := HLT.out.1; omega, by have := HLT.out.2; omega, by go_num, (HEND.out.mono (by push_cast; omega) (by push_cast; omega)), HL2.out⟩
        case measure => simp [intOf]; omega
      have t4 : (kd == 4) = false := by rw [beq_eq_false_iff_ne]; exact c4
      have u4 : decide (kd = 4) = false := decide_eq_false c4
      clear c4
      have hR6 := rw_yield hR5 gr HDN.out.g1 HDN.out.g2
      obtain ⟨an, han⟩ : ∃ an, an = X.yieldI gr := ⟨_, rfl⟩
      rw [← han] at hR6
      obtain ⟨X2, hX2⟩ : ∃ X2, X2 = yieldQ X gr := ⟨_, rfl⟩
      rw [← hX2] at hR6
      have HL2 : Hid X2.led := Lib.hid (by rw [hX2]; exact led_yield hled gr)
      have HOK := Lib.hid hok
      have HLED := Lib.hid hled
      have MR : Hid (∀ W, RQ W W.heap.size A5 c5 X.L → Calls Try.prog 24 #[rqV A5 X.L.length c5 X.cur X.mn X.over, .int .i64 gr] W fun r w' => ∃ A' c', r = .returned (.tuple #[rqV A' X2.L.length c' X2.cur X2.mn X2.over, .int .i64 an]) ∧ Hid (RfRes W w' A5 A' c' X X2)) := Lib.hid fun W hW => by
        rw [hX2, han]
        exact rf_yield A5 c5 X HOK.out gr W hW
      have MQ := Lib.hid hR6
      clear hR6 hR5 hX2 han hok hled
      obtain ⟨nn, hnn⟩ : ∃ nn, nn = X.L.length := ⟨_, rfl⟩
      obtain ⟨n2, hn2⟩ : ∃ n2, n2 = X2.L.length := ⟨_, rfl⟩
      have HNN := Lib.hid (And.intro hnn hn2)
      rw [← hnn, ← hn2] at MR
      clear hnn hn2
      go_wp2_with fail
      rw [← hw5]
      refine MQ.out.mono ?_
      rintro r w6 ⟨rfl, H6⟩
      obtain ⟨y0, y1, y2, y3, fy⟩ := RW.cells H6.out
      obtain ⟨e0, e1, e2, e3, e4, e5, e6⟩ := HKD.out _ _ _ _ _ _ H6.out
      rw [← HNN.out.1] at y0
      clear x0 x1 x2 x3 x4 x5 x6 d0 d1 d2 d3 d4 d5 d6 MQ
      go_wp2_with fail
      refine (MR.out w6 H6.out.row).mono ?_
      rintro r w7 ⟨A7, c7, rfl, H7⟩
      have hbx7 := H6.out.box.below H7.out.res.bel H6.out.box.lt
      have g0 : w7.cell? ⟨p, 0, none⟩ = some (.slice A5 X.L.length c5) := Blk.cell hbx7 0
      have g1 : w7.cell? ⟨p, 1, none⟩ = some (.int .i64 X.cur) := Blk.cell hbx7 1
      have g2 : w7.cell? ⟨p, 2, none⟩ = some (.int .i64 X.mn) := Blk.cell hbx7 2
      have g3 : w7.cell? ⟨p, 3, none⟩ = some (.bool X.over) := Blk.cell hbx7 3
      have fg := Blk.frozen hbx7
      have hp7 : p < w7.heap.size := Nat.lt_of_lt_of_le H6.out.box.lt H7.out.res.bel.size
      have hpne : (p = w7.heap.size) = False := eq_false (by omega)
      have hpne2 : (w7.heap.size = p) = False := eq_false (by omega)
      have hpne3 : (p = w7.heap.size + 1) = False := eq_false (by omega)
      have hpne4 : (w7.heap.size + 1 = p) = False := eq_false (by omega)
      clear y0 y1 y2 y3 fy e0 e1 e2 e3 e4 e5 e6 MR hbx7
      go_wp2_with fail
      obtain ⟨w8, hw8⟩ : ∃ w8, w8 = (((w7.setCell ⟨p, 0, none⟩ (.slice A7 n2 c7)).setCell ⟨p, 1, none⟩ (.int .i64 X2.cur)).setCell ⟨p, 2, none⟩ (.int .i64 X2.mn)).setCell ⟨p, 3, none⟩ (.bool X2.over) := ⟨_, rfl⟩
      rw [← hw8]
      have hR8 := H6.out.stored H7.out (Below.refl _ _) HNN.out.2
      rw [← hw8] at hR8
      obtain ⟨w9, hw9⟩ : ∃ w9, w9 = w8.alloc (.cells #[.slice A7 n2 c7, .int .i64 X2.cur, .int .i64 X2.mn, .bool X2.over] 28) := ⟨_, rfl⟩
      rw [← hw9]
      have hR9 := (hR8.below (show Below w8.heap.size w8 w9 by rw [hw9]; exact (Below.refl _ _).alloc (Nat.le_refl _) _)).less
      have MS := same_any hR9
      rw [← HNN.out.2] at MS
      refine MS.mono ?_
      rintro r w10 ⟨rfl, hb10⟩
      have HEND := Lib.hid (hR9.below hb10)
      clear hw8 hR8 hw9 hR9 MS hb10 hw5 H6 H7 g0 g1 g2 g3 fg hpne hpne2 hpne3 hpne4 hp7 HKD HNN HOK HLED HDN
      go_wp2_with fail
      go_roundw
      case rel => exact ⟨k + 1, X2, A7, c7, by have := HLT.out.1; omega, by have := HLT.out.2; omega, by go_num, (HEND.out.mono (by push_cast; omega) (by push_cast; omega)), HL2.out⟩
      case measure => simp [intOf]; omega
    · have hex : (decide ((k : Int) < (n : Int)) = true ∧ decide (k < n) = true ∧ decide ((k : Int) < 150) = false ∧ decide (k < 150) = false) ∨ (decide ((k : Int) < (n : Int)) = false ∧ decide (k < n) = false) := by
        by_cases hlt : k < n
        · exact .inl ⟨decide_eq_true (by omega), decide_eq_true hlt, decide_eq_false (by omega), decide_eq_false (by omega)⟩
        · exact .inr ⟨decide_eq_false (by omega), decide_eq_false hlt⟩
      have HBEL := Lib.hid (HB1.out.trans (HR.out.1.base.mono HB1.out.size))
      clear HU HX HN HB1 HR
      rcases hex with ⟨z1, z2, z3, z4⟩ | ⟨z1, z2⟩
      all_goals
        go_wp2_with fail
        go_ret
        exact ⟨rfl, HBEL.out⟩

set_option maxRecDepth 100000 in
theorem lifted (os : Os) (started : os.Started) (H : Type) (enc : TypeId × Value → H) :
    ReturnsInHanded {} Try.checked os 3 .any (Rows.runqPlaysSpec.pre6 enc Try.prog Try.f3 Rows.runqPlaysRow.domain false) (Rows.runqPlaysSpec.post enc Try.prog Try.f3 false true false false) := by
  refine returnsInHanded_of_change (C := Try.checked) own started (by as_aux_lemma => kernel_rfl) Try.func3
    (ChangeSpec.witness6 (enc := enc) (C := Try.checked) false ⟨#[], #[.slice none 0 0], []⟩ 8 (by as_aux_lemma => kernel_rfl) (by as_aux_lemma => kernel_rfl) (by as_aux_lemma => kernel_rfl) (by as_aux_lemma => kernel_rfl)) ?_
  intro W base args ds gs before hval0 hW hcnd _
  have hval : ∀ (j : Nat) t v, Try.f3.params[j]? = some t → args[j]? = some v → Value.okWide Try.prog W .any base t v := hval0
  have hW' := hW
  obtain ⟨p, q, hA0, hV, rfl, hfz, hnd⟩ := hW
  have hA : DataW.TrodAll enc Try.prog W 0 (fun _ => true) true Try.f3.params.toList args.toList ds p := hA0
  rw [Try.params3] at hA hval
  obtain ⟨v0, vs0, d0, ds0, p0, q0, hargs, rfl, rfl, h0, r0⟩ := trodAll_cons hA
  obtain ⟨rfl, rfl, rfl⟩ := trodAll_nil r0
  obtain rfl : args = #[v0] := by cases args; simp_all
  obtain ⟨A0, axs0, ac0, rfl, Ud0, Xd0, Ld0⟩ := open_deeds (hval 0 22 v0 rfl rfl) h0
  refine (walk A0 axs0 ac0 W Ud0 Xd0 Ld0).mono fun e W' ⟨he, bel⟩ => ?_
  subst he
  exact ⟨_, rfl, law_post laidOut (by as_aux_lemma => kernel_rfl) rfl Try.underlying4 rfl (fun ds hds => by
    match ds, hds with
    | [x0], _ => rfl) hW' bel⟩

theorem closed : joinedFacts Try.prog 3 Try.f3 Rows.runqPlaysSpec Rows.runqPlaysRow = true := by
  unfold joinedFacts
  simp only [Bool.and_eq_true]
  exact ⟨⟨⟨⟨⟨⟨⟨⟨⟨⟨⟨⟨⟨⟨⟨⟨⟨⟨⟨⟨⟨⟨⟨⟨⟨⟨⟨⟨⟨⟨⟨(by as_aux_lemma => kernel_rfl), laidOut⟩, mapsRowedT⟩, (by as_aux_lemma => kernel_rfl)⟩, (by as_aux_lemma => kernel_rfl)⟩, rfl⟩, stopsN⟩, rfl⟩, stopKnobsN⟩, (by as_aux_lemma => kernel_rfl)⟩, (by as_aux_lemma => kernel_rfl)⟩, (by as_aux_lemma => kernel_rfl)⟩, (by as_aux_lemma => kernel_rfl)⟩, (by as_aux_lemma => kernel_rfl)⟩, (by as_aux_lemma => kernel_rfl)⟩, (by as_aux_lemma => kernel_rfl)⟩, (by as_aux_lemma => kernel_rfl)⟩, (by as_aux_lemma => kernel_rfl)⟩, (by as_aux_lemma => kernel_rfl)⟩, (by as_aux_lemma => kernel_rfl)⟩, (by as_aux_lemma => kernel_rfl)⟩, (by as_aux_lemma => kernel_rfl)⟩, plainKeysT⟩, rfl⟩, stopsHeardT⟩, mayEnterT⟩, liftedT⟩, makeT⟩, (by as_aux_lemma => kernel_rfl)⟩, (by as_aux_lemma => kernel_rfl)⟩, (by as_aux_lemma => kernel_rfl)⟩, (by as_aux_lemma => kernel_rfl)⟩

theorem over : Rows.runqPlaysRow.holds Try.pinned (OpenSpec.ofChange Rows.runqPlaysSpec) :=
  OpenClaim.holds_of_wide 3 Try.f3 rfl rfl rfl rfl rfl rfl rfl ⟨rfl, rfl, rfl, rfl, rfl⟩ rfl rfl rfl rfl rfl (by as_aux_lemma => kernel_rfl) Try.func3 closed
    (of_decide_eq_true (by as_aux_lemma => kernel_rfl)) (by unfold Func.isWrapper; first | (rw [if_pos (by decide +kernel)]; as_aux_lemma => kernel_rfl) | (rw [if_neg (by decide +kernel)]; exact ⟨rfl, rfl⟩))
    (fun os started H enc _ => lifted os started H enc)

theorem proved : Rows.RunqPlaysSaid := over
#print axioms proved

end runqPlays

end Go.Proofs.Ytefekboacghnjaa
