/-
  The farm of chapter 20: a piece of work that charges.
  The farm of chapter 20 at its start, as data.
  The farm of chapter 20 at its start: begun.
  The farm of chapter 20: who runs.
  Chapter 20: how its inputs lie.
  Chapter 20: a farm from round to round.
-/
import Derived.Test.YtefekboacghnjaaMq
import Derived.Test.YtefekboacghnjaaMi

namespace Go.Proofs.Ytefekboacghnjaa
open Go.RowKit Go.Maps

section
variable {w0 w w' : World} {ks : List (Nat × Obj)} {p h : Nat} {X : FSt} {S : HS} {K : Int} {own : Nat → En} {here : Nat → Bool} {c g : Int} {t : Nat}
theorem yield_pre (x : FW) (O : FOk c g X) : FOk c g ⟨if x.is then yieldH 9 X.S else X.S, X.own, X.here⟩ := by
  by_cases hi : x.is = true
  · rw [if_pos hi]
    exact O.sim (yield_good O.good) (yield_sim _)
  · rw [if_neg hi]
    exact O
set_option maxRecDepth 100000 in
set_option maxHeartbeats 8000000 in
theorem work_3 (a : FQ w0 ks w p h X.S K X.own X.here c g t) (O : FOk c g X) (hK : K + 10000 ≤ 1000000000000000) (g0 : 0 ≤ g) (g1 : g ≤ 65535) (ht : t ≤ 65536) (x : FW) (hx : x.num) (k0 : x.kind ≠ 0) (k1 : x.kind ≠ 1) (k2 : x.kind ≠ 2) :
    Calls Try.prog 34 #[.pointer (some ⟨p, 0, none⟩), fwV x] w fun r w' => r = .returned (.tuple #[]) ∧ Hid (FQ w0 ks w' p h (workF c t X x).S (K + 10000) (workF c t X x).own (workF c t X x).here c g t) := by
  have hw0 : workF0 c t X x = ⟨chargeH (x.ns % (t + 1)) (if x.is then yieldH 9 X.S else X.S), X.own, X.here⟩ := by
    unfold workF0
    rw [if_neg k0, if_neg k1, if_neg k2]
  have hO := O.work0 t x
  have OY := yield_pre x O
  have e7 := and7 x.who hx.o1 hx.o2
  have hn8 := x.n8_lt
  have e8 : x.who % 8 = ((x.n8 : Nat) : Int) := by unfold FW.n8; omega
  rw [e8] at e7
  obtain ⟨n, hn⟩ : ∃ n, n = x.n8 := ⟨_, rfl⟩
  rw [← hn] at e7 hn8
  obtain ⟨Y, hY⟩ : ∃ Y : FSt, Y = ⟨if x.is then yieldH 9 X.S else X.S, X.own, X.here⟩ := ⟨_, rfl⟩
  rw [← hY] at OY
  have MY : Hid (x.is = true → ∀ W b o, Below w.heap.size w W → w.heap.size ≤ b → W.heap[b]? = some o → W.cell? ⟨p, 0, none⟩ = some (.pointer (some ⟨h, 0, none⟩)) ∧ Calls Try.prog 51 #[.pointer (some ⟨h, 0, none⟩)] W fun r w' => (∃ m, r = .returned (.int .i64 m)) ∧ Hid (FQ w0 ((b, o) :: ks) w' p h Y.S K Y.own Y.here c g t)) := Lib.hid fun hi W b o hW hb ho => by
    have aW := a.keep hW ho hb
    rw [hY, if_pos hi]
    exact ⟨aW.farm.h0, fq_yield aW O.good (by rw [O.gr]; omega) (by rw [O.gr]; omega)⟩
  have MN : Hid (x.is = false → ∀ W b o, Below w.heap.size w W → w.heap.size ≤ b → W.heap[b]? = some o → Hid (FQ w0 ((b, o) :: ks) W p h Y.S K Y.own Y.here c g t)) := Lib.hid fun hi W b o hW hb ho => by
    have aW := a.keep hW ho hb
    rw [hY, if_neg (by rw [hi]; decide)]
    exact Lib.hid aW
  obtain ⟨rm, hrm⟩ : ∃ rm, rm = x.ns % (t + 1) := ⟨_, rfl⟩
  have hrm2 : rm ≤ 65536 := by
    have := Nat.mod_lt x.ns (Nat.succ_pos t)
    rw [← Nat.succ_eq_add_one] at hrm
    omega
  have MC : Hid (∀ z W, FQ w0 (z :: ks) W p h Y.S K Y.own Y.here c g t → Calls Try.prog 38 #[.pointer (some ⟨h, 0, none⟩), .int .u64 (rm : Nat)] W fun r w' => (r = .returned (.int .i64 (if runI 9 Y.S = -1 then 7 else 0))) ∧ Hid (FQ w0 ks w' p h (workF0 c t X x).S (K + 10000) (workF0 c t X x).own (workF0 c t X x).here c g t)) := Lib.hid fun z W hW => by
    have := fq_charge hW.loose OY.good hK rm (by omega)
    rw [hw0, ← hrm]
    refine this.mono fun r w' hp => ⟨hp.1, ?_⟩
    have h2 := hp.2
    rw [hY] at h2
    exact h2
  have MP : Hid (∀ W, FQ w0 ks W p h (workF0 c t X x).S (K + 10000) (workF0 c t X x).own (workF0 c t X x).here c g t → Calls Try.prog 50 #[.pointer (some ⟨h, 0, none⟩)] W fun r w' => (∃ m, r = .returned (.int .i64 m)) ∧ Hid (FQ w0 ks w' p h (workF c t X x).S (K + 10000) (workF c t X x).own (workF c t X x).here c g t)) := Lib.hid fun W hW => work_pick hW hO g0 g1
  obtain ⟨cd, hcd⟩ : ∃ cd : Int, cd = (if runI 9 Y.S = -1 then 7 else 0) := ⟨_, rfl⟩
  rw [← hcd] at MC
  have hxn := hx.n
  obtain ⟨t1, ht1⟩ : ∃ t1, t1 = t + 1 := ⟨_, rfl⟩
  have f1 : IntKind.u64.wrap ((t : Int) + 1) = (t1 : Int) := by rw [IntKind.wrap_u64]; omega
  have f2 : ((x.ns : Nat) : Int).tmod (t1 : Int) = (rm : Int) := by
    rw [Int.tmod_eq_emod_of_nonneg (Int.natCast_nonneg _), hrm, ht1]
    rfl
  have f3 : ((t1 : Int) == 0) = false := by
    rw [beq_eq_false_iff_ne]
    omega
  have f4 : t1 ≠ 0 := by omega
  have f5 : IntKind.u64.wrap ((x.ns : Nat) : Int) = ((x.ns : Nat) : Int) := by rw [IntKind.wrap_u64]; omega
  obtain ⟨xk, xo, xw, xn, xi⟩ := x
  dsimp only at k0 k1 k2 e7 MY MN f2 f5 hxn
  have z0 : (xk == 0) = false := by rw [beq_eq_false_iff_ne]; exact k0
  have z1 : (xk == 1) = false := by rw [beq_eq_false_iff_ne]; exact k1
  have z2 : (xk == 2) = false := by rw [beq_eq_false_iff_ne]; exact k2
  obtain ⟨W2, hW2⟩ : ∃ W2, W2 = w.alloc (.cells #[.int .i64 xk, .int .i64 xo, .int .u32 (xw : Nat), .int .u32 (xn : Nat), .bool xi] 67) := ⟨_, rfl⟩
  have HP0 := Lib.hid (And.intro a.farm.h0 a.farm.lt)
  have hb : Below w.heap.size w W2 := by rw [hW2]; exact (Below.refl _ _).alloc (Nat.le_refl _) _
  have hx2 : Blk W2 w.heap.size #[.int .i64 xk, .int .i64 xo, .int .u32 (xw : Nat), .int .u32 (xn : Nat), .bool xi] 67 := by rw [hW2]; exact Blk.new _ _ _
  obtain ⟨o2, ho2, hto⟩ : ∃ o2, W2.heap[w.heap.size]? = some o2 ∧ (∀ W : World, W.heap[w.heap.size]? = some o2 → W.cell? ⟨w.heap.size, 3, none⟩ = some (.int .u32 (xn : Nat))) := by
    have h3 : W2.cell? ⟨w.heap.size, 3, none⟩ = some (.int .u32 (xn : Nat)) := Blk.cell hx2 3
    have hlt := hx2.lt
    refine ⟨_, Array.getElem?_eq_getElem hlt, fun W hW => ?_⟩
    rw [← h3]
    unfold World.cell?
    rw [hW, Array.getElem?_eq_getElem hlt]
  have HB := Lib.hid (And.intro hb ho2)
  have HF := Lib.hid (And.intro f1 (And.intro f2 (And.intro f3 (And.intro f4 hto))))
  have HF5 := Lib.hid f5
  clear a O hO OY hx hn e8 hw0 hb hY hcd hrm ht1 f1 f2 f3 f4 f5 k0 k1 k2 ho2 hto
  have key : ∀ W3, FQ w0 ((w.heap.size, o2) :: ks) W3 p h Y.S K Y.own Y.here c g t → W3.cell? ⟨p, 0, none⟩ = some (.pointer (some ⟨h, 0, none⟩)) ∧ W3.cell? ⟨p, 43, none⟩ = some (.int .u64 t) ∧ W3.cell? ⟨w.heap.size, 3, none⟩ = some (.int .u32 (xn : Nat)) ∧ Hid (∀ W, Below W3.heap.size W3 W → Calls Try.prog 38 #[.pointer (some ⟨h, 0, none⟩), .int .u64 (rm : Nat)] W fun r w' => (r = .returned (.int .i64 cd)) ∧ Hid (FQ w0 ks w' p h (workF0 c t X ⟨xk, xo, xw, xn, xi⟩).S (K + 10000) (workF0 c t X ⟨xk, xo, xw, xn, xi⟩).own (workF0 c t X ⟨xk, xo, xw, xn, xi⟩).here c g t)) := fun W3 hW3 =>
    ⟨hW3.farm.h0, hW3.farm.t0, HF.out.2.2.2.2 W3 (hW3.kept (List.mem_cons_self ..)), Lib.hid fun W hW => MC.out _ W (hW3.below hW)⟩
  have KEY := Lib.hid key
  clear key MC
  go_enter Try.func34, Try.ntmps34
  cases xi with
  | false =>
    go_wp2_with fail
    rw [← hW2]
    have b4 : W2.cell? ⟨w.heap.size, 4, none⟩ = some (.bool false) := Blk.cell hx2 4
    go_wp2_with fail
    obtain ⟨q0, q1, q2, MC⟩ := KEY.out W2 (MN.out (by first | rfl | trivial) W2 _ _ HB.out.1 (Nat.le_refl _) HB.out.2).out
    clear KEY MN MY b4 hx2 hW2
    have f1 := HF.out.1
    have f2 := HF.out.2.1
    have f3 := HF.out.2.2.1
    have f4 := HF.out.2.2.2.1
    have f5 := HF5.out
    apply wp_region_to (fun W => Hid (FQ w0 ks W p h (workF0 c t X ⟨xk, xo, xw, xn, false⟩).S (K + 10000) (workF0 c t X ⟨xk, xo, xw, xn, false⟩).own (workF0 c t X ⟨xk, xo, xw, xn, false⟩).here c g t))
    case h =>
      go_still_tail 13, (by kernel_rfl)
      change wpList _ _ _ _ _ (W2.drew)
      go_wp2_with fail
      refine (MC.out _ (Below.refl _ _).drew).mono ?_
      rintro r w7 ⟨rfl, HQ⟩
      go_wp2_with fail
      exact ⟨rfl, HQ⟩
    intro W9 HQ9
    have q9 := HQ9.out.farm.h0
    clear MC q0 q1 q2 f1 f2 f3 f4 f5
    go_wp2_with fail
    refine (MP.out _ HQ9.out).mono ?_
    rintro r w2 ⟨⟨m, rfl⟩, HQ2⟩
    clear MP
    go_wp2_with fail
    go_end0
    exact ⟨rfl, HQ2⟩
  | true =>
    have q9 := HP0.out.1
    have q8 := HP0.out.2
    have q7 : (w.alloc (.cells #[.int .i64 xk, .int .i64 xo, .int .u32 (xw : Nat), .int .u32 (xn : Nat), .bool true] 67)).cell? ⟨p, 0, none⟩ = some (.pointer (some ⟨h, 0, none⟩)) := by
      rw [← hW2]
      exact (MY.out (by first | rfl | trivial) W2 _ _ HB.out.1 (Nat.le_refl _) HB.out.2).1
    go_wp2_with fail
    rw [← hW2]
    clear q9 q8 q7
    have b4 : W2.cell? ⟨w.heap.size, 4, none⟩ = some (.bool true) := Blk.cell hx2 4
    obtain ⟨q0, MY1⟩ := MY.out (by first | rfl | trivial) W2 _ _ HB.out.1 (Nat.le_refl _) HB.out.2
    refine MY1.mono ?_
    rintro r W3 ⟨⟨m, rfl⟩, HQ3⟩
    clear q0 MY1 b4 hx2 hW2
    go_wp2_with fail
    obtain ⟨q0, q1, q2, MC⟩ := KEY.out W3 HQ3.out
    clear KEY MN MY HB
    have f1 := HF.out.1
    have f2 := HF.out.2.1
    have f3 := HF.out.2.2.1
    have f4 := HF.out.2.2.2.1
    have f5 := HF5.out
    apply wp_region_to (fun W => Hid (FQ w0 ks W p h (workF0 c t X ⟨xk, xo, xw, xn, true⟩).S (K + 10000) (workF0 c t X ⟨xk, xo, xw, xn, true⟩).own (workF0 c t X ⟨xk, xo, xw, xn, true⟩).here c g t))
    case h =>
      go_still_tail 13, (by kernel_rfl)
      change wpList _ _ _ _ _ (W3.drew)
      go_wp2_with fail
      refine (MC.out _ (Below.refl _ _).drew).mono ?_
      rintro r w7 ⟨rfl, HQ⟩
      go_wp2_with fail
      exact ⟨rfl, HQ⟩
    intro W9 HQ9
    have q9 := HQ9.out.farm.h0
    clear MC q0 q1 q2 f1 f2 f3 f4 f5
    go_wp2_with fail
    refine (MP.out _ HQ9.out).mono ?_
    rintro r w2 ⟨⟨m, rfl⟩, HQ2⟩
    clear MP
    go_wp2_with fail
    go_end0
    exact ⟨rfl, HQ2⟩
theorem work_any (a : FQ w0 ks w p h X.S K X.own X.here c g t) (O : FOk c g X) (hK : K + 10000 ≤ 1000000000000000) (g0 : 0 ≤ g) (g1 : g ≤ 65535) (ht : t ≤ 65536) (x : FW) (hx : x.num) :
    Calls Try.prog 34 #[.pointer (some ⟨p, 0, none⟩), fwV x] w fun r w' => r = .returned (.tuple #[]) ∧ Hid (FQ w0 ks w' p h (workF c t X x).S (K + 10000) (workF c t X x).own (workF c t X x).here c g t) := by
  by_cases k0 : x.kind = 0
  · exact work_0 a O hK g0 g1 x hx k0
  by_cases k1 : x.kind = 1
  · exact work_1 a O hK g0 g1 x hx k1
  by_cases k2 : x.kind = 2
  · exact work_2 a O hK g0 g1 x hx k2
  exact work_3 a O hK g0 g1 ht x hx k0 k1 k2
end

end Go.Proofs.Ytefekboacghnjaa

namespace Go.Proofs.Ytefekboacghnjaa
open Go.RowKit Go.Maps

def linksF (c g : Int) : Nat → HS
  | 0 => newH c g
  | k + 1 => (linksF c g k).put (k + 1) (some (linkG (k + 1) (parN (k + 1)) (grOf (linksF c g k) (parN (k + 1))).deep))
theorem parN_le (k : Nat) (hk : k < 5) : parN (k + 1) ≤ k := by
  match k, hk with
  | 0, _ => exact (by decide)
  | 1, _ => exact (by decide)
  | 2, _ => exact (by decide)
  | 3, _ => exact (by decide)
  | 4, _ => exact (by decide)
structure Linked (c g : Int) (S : HS) (k : Nat) : Prop where
  good : HGood S
  cr : S.credit = c
  gr : S.gran = g
  le : ∀ i, i ≤ k → ∃ x, S.G i = some x ∧ x.deep ≤ i ∧ (i ≠ 0 → x.up = ((parN i : Nat) : Int)) ∧ x.q = emptyQ
  gt : ∀ i, k < i → S.G i = none
theorem Linked.gr_ {c g : Int} {S : HS} {k : Nat} (L : Linked c g S k) {i : Nat} (hi : i ≤ k) : S.G i = some (grOf S i) ∧ (grOf S i).deep ≤ i := by
  obtain ⟨x, hx, hd, _⟩ := L.le i hi
  unfold grOf
  rw [hx]
  exact ⟨rfl, hd⟩
theorem links_ok (c g : Int) : ∀ k, k ≤ 5 → Linked c g (linksF c g k) k
  | 0, _ => by
    refine ⟨new_good c g, rfl, rfl, fun i hi => ?_, fun i hi => ?_⟩
    · have h0 : i = 0 := by omega
      subst h0
      exact ⟨_, rfl, Nat.le_refl _, fun h => absurd rfl h, rfl⟩
    · show (if i = 0 then _ else none) = none
      rw [if_neg (by omega)]
  | k + 1, hk => by
    have L := links_ok c g k (by omega)
    have hp := parN_le k (by omega)
    obtain ⟨h1, h2⟩ := L.gr_ hp
    have hn := L.gt (k + 1) (by omega)
    refine ⟨link_good L.good (by omega) (by omega) hn h1 (by omega), L.cr, L.gr, fun i hi => ?_, fun i hi => ?_⟩
    · by_cases he : i = k + 1
      · subst he
        refine ⟨_, HS.put_same _ _ _, ?_, fun _ => rfl, rfl⟩
        show _ + 1 ≤ k + 1
        omega
      · obtain ⟨x, hx, h3⟩ := L.le i (by omega)
        refine ⟨x, ?_, h3⟩
        show (HS.put _ _ _).G i = _
        rw [HS.put_other _ _ he]
        exact hx
    · show (HS.put _ _ _).G i = _
      rw [HS.put_other _ _ (by omega)]
      exact L.gt i (by omega)
def startF (c g : Int) : FSt := ⟨linksF c g 5, fun n => ⟨(n : Int), 1024, 0, 0⟩, fun _ => false⟩
theorem start_ok (c g : Int) : FOk c g (startF c g) := by
  have L := links_ok c g 5 (Nat.le_refl _)
  have emp : ∀ i x, (startF c g).S.G i = some x → x.q.L = [] := fun i x hx => by
    by_cases hi : i ≤ 5
    · obtain ⟨y, hy, _, _, hq⟩ := L.le i hi
      have : x = y := Option.some.inj (hx.symm.trans hy)
      rw [this, hq]
      rfl
    · have := L.gt i (by omega)
      have h2 := hx.symm.trans this
      exact absurd h2 (by simp)
  refine ⟨L.good, L.cr, L.gr, fun i hi => ?_, fun i hi => L.gt i (by omega), fun n _ => ⟨rfl, by show 2 ≤ 1024; decide, by show 1024 ≤ 262144; decide, by show -9223372036854775808 ≤ (0 : Int); decide, by show (0 : Int) ≤ 9223372036854775807; decide, by show 0 < 1024; decide⟩, fun n _ x hx => ?_, fun u x hx e he => ?_⟩
  · obtain ⟨x, hx, _, hu, _⟩ := L.le i (by omega)
    exact ⟨x, hx, hu⟩
  · rw [emp _ x hx]
    simp [startF]
  · rw [emp _ x hx] at he
    simp at he

end Go.Proofs.Ytefekboacghnjaa

namespace Go.Proofs.Ytefekboacghnjaa
open Go.RowKit Go.Maps

section
abbrev termsV (a b d : Nat) : Value := .agg #[.int .u16 (a : Nat), .int .u16 (b : Nat), .int .u16 (d : Nat)]
abbrev zeroOw : Nat → En := fun _ => ⟨0, 0, 0, 0⟩
abbrev farmCells (h : Nat) (c g : Int) (t : Nat) : Array Value := #[.pointer (some ⟨h, 0, none⟩), .int .i64 0, .int .u64 0, .int .i64 0, .int .u64 0, .int .i64 0, .int .u64 0, .int .i64 0, .int .u64 0, .int .i64 0, .int .u64 0, .int .i64 0, .int .u64 0, .int .i64 0, .int .u64 0, .int .i64 0, .int .u64 0, .int .i64 0, .int .u64 0, .int .i64 0, .int .u64 0, .int .i64 0, .int .u64 0, .int .i64 0, .int .u64 0, .int .i64 0, .int .u64 0, .int .i64 0, .int .u64 0, .int .i64 0, .int .u64 0, .int .i64 0, .int .u64 0, .bool false, .bool false, .bool false, .bool false, .bool false, .bool false, .bool false, .bool false, .int .i64 c, .int .i64 g, .int .u64 t]
theorem farm_new (w : World) (h : Nat) (c g : Int) (t : Nat) : FAt (w.alloc (.cells (farmCells h c g t) 71)) w.heap.size h zeroOw (fun _ => false) c g t := by
  have hb := Blk.new w (farmCells h c g t) 71
  refine ⟨⟨_, hb, rfl⟩, Blk.cell hb 0, fun i hi => ?_, fun i hi => ?_, Blk.cell hb 41, Blk.cell hb 42, Blk.cell hb 43⟩
  · have : i = 0 ∨ i = 1 ∨ i = 2 ∨ i = 3 ∨ i = 4 ∨ i = 5 ∨ i = 6 ∨ i = 7 := by omega
    rcases this with rfl | rfl | rfl | rfl | rfl | rfl | rfl | rfl <;> exact ⟨Blk.cell hb _, Blk.cell hb _, Blk.cell hb _, Blk.cell hb _⟩
  · have : i = 0 ∨ i = 1 ∨ i = 2 ∨ i = 3 ∨ i = 4 ∨ i = 5 ∨ i = 6 ∨ i = 7 := by omega
    rcases this with rfl | rfl | rfl | rfl | rfl | rfl | rfl | rfl <;> exact Blk.cell hb _
def ownUp (i : Nat) : Nat → En := fun n => if n < i then ⟨(n : Int), 1024, 0, 0⟩ else ⟨0, 0, 0, 0⟩
theorem ownUp_step (i : Nat) : updO2 (ownUp i) i ⟨(i : Int), 1024, 0, 0⟩ = ownUp (i + 1) := by
  funext n
  unfold updO2 ownUp
  by_cases h : n = i
  · subst h
    rw [if_pos rfl, if_pos (by omega)]
  · rw [if_neg h]
    by_cases h2 : n < i
    · rw [if_pos h2, if_pos (by omega)]
    · rw [if_neg h2, if_neg (by omega)]
/-- own is written out for the eight that are -/
theorem FQ.own_eq {w0 w : World} {ks : List (Nat × Obj)} {p h : Nat} {S : HS} {K : Int} {own own' : Nat → En} {here : Nat → Bool} {c g : Int} {t : Nat} (a : FQ w0 ks w p h S K own here c g t) (e : ∀ i, i < 8 → own' i = own i) : FQ w0 ks w p h S K own' here c g t :=
  ⟨a.ex, a.pb, ⟨a.farm.blk, a.farm.h0, fun i hi => by rw [e i hi]; exact a.farm.own i hi, a.farm.here, a.farm.c0, a.farm.g0, a.farm.t0⟩⟩
theorem fq_link {w0 w : World} {ks : List (Nat × Obj)} {p h : Nat} {S : HS} {K : Int} {own : Nat → En} {here : Nat → Bool} {c g : Int} {t : Nat} (a : FQ w0 ks w p h S K own here c g t) {i pa : Nat} {x : Gr} (h0 : 1 ≤ i) (hi : i < 32) (hn : S.G i = none) (hp : S.G pa = some x) (hd : x.deep < 8) :
    Calls Try.prog 28 #[.pointer (some ⟨h, 0, none⟩), .int .i64 (i : Int), .int .i64 (pa : Int)] w fun r w' => r = .returned (.int .i64 0) ∧ Hid (FQ w0 ks w' p h (S.put i (some (linkG i pa x.deep))) K own here c g t) := by
  obtain ⟨F, h1, h2⟩ := a.turned
  refine (hlink_ok h1 h0 hi hn hp hd).mono fun r w' hpp => ?_
  obtain ⟨hr, F', hT⟩ := hpp
  exact ⟨hr, h2 _ _ _ _ hT.out⟩
theorem kp_alloc {B : Nat} {W w : World} {R : Prop} (h : Below B W w ∧ R) (hB : B ≤ W.heap.size) (o : Obj) : Below B W (w.alloc o) := h.1.alloc (Nat.le_trans hB h.1.size) o
set_option maxRecDepth 100000 in
set_option maxHeartbeats 8000000 in
theorem begun_any (a b d : Nat) (ha : a < 65536) (hb : b < 65536) (hd : d < 65536) (w : World) :
    Calls Try.prog 33 #[termsV a b d] w fun r w' => ∃ p h, r = .returned (.pointer (some ⟨p, 0, none⟩)) ∧ Hid (FQ w [] w' p h (startF a b).S 1 (startF a b).own (startF a b).here a b (1 + d)) := by
  have MN := Lib.hid fun W => hnew_any (a : Int) (b : Int) W
  have e1 : IntKind.i64.wrap (a : Int) = (a : Int) := by rw [IntKind.wrap_i64]; omega
  have e2 : IntKind.i64.wrap (b : Int) = (b : Int) := by rw [IntKind.wrap_i64]; omega
  have e3 : IntKind.u64.wrap (d : Int) = (d : Int) := by rw [IntKind.wrap_u64]; omega
  obtain ⟨t, ht⟩ : ∃ t, t = 1 + d := ⟨_, rfl⟩
  have e4 : IntKind.u64.wrap (1 + (d : Int)) = (t : Int) := by rw [IntKind.wrap_u64]; omega
  rw [← ht]
  obtain ⟨W1, hW1⟩ : ∃ W1, W1 = w.alloc (.cells #[.int .u16 (a : Nat), .int .u16 (b : Nat), .int .u16 (d : Nat)] 60) := ⟨_, rfl⟩
  have hB1 : Below w.heap.size w W1 := by rw [hW1]; exact (Below.refl _ _).alloc (Nat.le_refl _) _
  have hx1 : Blk W1 w.heap.size #[.int .u16 (a : Nat), .int .u16 (b : Nat), .int .u16 (d : Nat)] 60 := by rw [hW1]; exact Blk.new _ _ _
  have hz1 : w.heap.size + 1 ≤ W1.heap.size := hx1.lt
  have SO := Lib.hid fun W (k : Below (w.heap.size + 1) W1 W) => (⟨k, Blk.cell (hx1.of (k.block w.heap.size (by omega))) 0, Blk.cell (hx1.of (k.block w.heap.size (by omega))) 1, Blk.cell (hx1.of (k.block w.heap.size (by omega))) 2⟩ : Below (w.heap.size + 1) W1 W ∧ W.cell? ⟨w.heap.size, 0, none⟩ = some (.int .u16 (a : Nat)) ∧ W.cell? ⟨w.heap.size, 1, none⟩ = some (.int .u16 (b : Nat)) ∧ W.cell? ⟨w.heap.size, 2, none⟩ = some (.int .u16 (d : Nat)))
  have HB1 := Lib.hid hB1
  clear hB1 hx1 ht
  go_enter Try.func33, Try.ntmps33
  go_wp2_with fail
  rw [← hW1]
  clear hW1
  go_region_held3 (fun W => Below (w.heap.size + 1) W1 W ∧ W.cell? ⟨w.heap.size, 0, none⟩ = some (.int .u16 (a : Nat)) ∧ W.cell? ⟨w.heap.size, 1, none⟩ = some (.int .u16 (b : Nat)) ∧ W.cell? ⟨w.heap.size, 2, none⟩ = some (.int .u16 (d : Nat)))
    (first | exact SO.out _ (kp_drew (by assumption)) | exact SO.out _ (kp_call (by assumption) (by assumption) hz1) | exact SO.out _ (kp_same (by assumption)) | exact SO.out _ (kp_alloc (by assumption) hz1 _) | exact SO.out _ (kp_start _ _))
    (first
      | (go_at_call 27; refine (MN.out _).mono ?_; rintro r w' ⟨h, F, rfl, HN⟩; have hnb := HN.out.2.1))
  rename_i hHeld
  obtain ⟨W2, hW2⟩ : ∃ W2, W2 = w'.alloc (.cells (farmCells h a b t) 71) := ⟨_, rfl⟩
  obtain ⟨p, hp⟩ : ∃ p, p = w'.heap.size := ⟨_, rfl⟩
  have FQ0 : FQ w [] W2 p h (linksF a b 0) 1 zeroOw (fun _ => false) a b t := by
    obtain ⟨n1, n2, n3, n4⟩ := HN.out
    have hb2 : Below w'.heap.size w' W2 := by rw [hW2]; exact (Below.refl _ _).alloc (Nat.le_refl _) _
    have hs1 : w.heap.size ≤ W1.heap.size := HB1.out.size
    have hs2 : W1.heap.size ≤ w'.heap.size := n2.size
    refine ⟨⟨F, n1.below hb2, ?_, fun b hb => Nat.le_trans hs1 (n4 b hb), fun hF => ?_, fun z hz => absurd hz (by simp)⟩, ?_, ?_⟩
    · exact (HB1.out.drew.trans (n2.mono hs1)).trans (hb2.mono (Nat.le_trans hs1 hs2))
    · have := n1.lt p hF
      omega
    · omega
    · rw [hW2, hp]
      exact farm_new w' h a b t
  rw [← hp]
  change Exit.then _ _ _ _ (w'.alloc (.cells (farmCells h a b t) 71))
  rw [← hW2]
  have HFQ := Lib.hid FQ0
  have q0 := FQ0.farm.h0
  clear hHeld hW2 hp HN hnb FQ0 SO MN HB1
  go_wp2_with fail
  go_loopw [4] (fun s4 wr => ∃ j : Nat, j ≤ 5 ∧ s4 = .int .i64 ((j + 1 : Nat) : Int) ∧ Hid (FQ w [] wr p h (linksF a b j) 1 zeroOw (fun _ => false) a b t)) (fun s4 _ => (6 - intOf s4).toNat)
  case atStart => exact ⟨0, by omega, rfl, HFQ⟩
  case round =>
    obtain ⟨j, hj5, rfl, HJ⟩ := hrel
    by_cases hj : j = 5
    · subst hj
      have HJ := HJ
      have q0 := HJ.out.farm.h0
      go_wp2_with fail
      have HJ1 := HJ
      clear q0 HJ HFQ
      go_loopw [5] (fun s5 wr => ∃ i : Nat, i ≤ 8 ∧ s5 = .int .i64 ((i : Nat) : Int) ∧ Hid (FQ w [] wr p h (linksF a b 5) 1 (ownUp i) (fun _ => false) a b t)) (fun s5 _ => (8 - intOf s5).toNat)
      case atStart => exact ⟨0, by omega, rfl, Lib.hid (HJ1.out.own_eq fun i _ => rfl)⟩
      case round =>
        obtain ⟨i, hi8, rfl, HI⟩ := hrel
        by_cases hi : i = 8
        · subst hi
          have HI := HI
          go_wp2_with fail
          go_ret
          refine ⟨p, h, rfl, Lib.hid ?_⟩
          exact HI.out.own_eq fun i hi => (if_pos hi : ownUp 8 i = _).symm
        · have j2 : decide (i < 8) = true := decide_eq_true (by omega)
          have j1 : (i : Int) < 8 := by omega
          have j0 : (0 : Int) ≤ (i : Int) := Int.natCast_nonneg _
          have j3 : decide ((i : Int) < 8) = true := decide_eq_true j1
          have pf := HI.out.farm.frozen
          obtain ⟨x0, x1, x2, x3⟩ := HI.out.farm.own i (by omega)
          go_wp2_with fail
          have hq := HI.out.set_own (i := i) (by omega) ⟨(i : Int), 1024, 0, 0⟩
          rw [ownUp_step] at hq
          refine ⟨⟨i + 1, by omega, by rw [Int.natCast_add]; rfl, Lib.hid hq⟩, ?_⟩
          simp only [intOf]
          omega
    · have hlt : decide (((j + 1 : Nat) : Int) ≤ 5) = true := decide_eq_true (by omega)
      have hlt2 : ((j + 1 : Nat) : Int) ≤ 5 := by omega
      have hadd : IntKind.i64.wrap (((j + 1 : Nat) : Int) + 1) = ((j + 1 + 1 : Nat) : Int) := by rw [IntKind.wrap_i64]; omega
      have q0 := HJ.out.farm.h0
      obtain ⟨jj, hjj⟩ : ∃ jj, jj = j + 1 := ⟨_, rfl⟩
      have ML : Hid (∀ W, Below wr.heap.size wr W → W.cell? ⟨p, 0, none⟩ = some (.pointer (some ⟨h, 0, none⟩)) ∧ Calls Try.prog 28 #[.pointer (some ⟨h, 0, none⟩), .int .i64 (jj : Int), .int .i64 ((parN jj : Nat) : Int)] W fun r w' => r = .returned (.int .i64 0) ∧ Hid (FQ w [] w' p h (linksF a b jj) 1 zeroOw (fun _ => false) a b t)) := Lib.hid fun W hW => by
        have aW := HJ.out.below hW
        have L := links_ok a b j (by omega)
        have hpl := parN_le j (by omega)
        obtain ⟨h1, h2⟩ := L.gr_ hpl
        rw [hjj]
        exact ⟨aW.farm.h0, fq_link aW (by omega) (by omega) (L.gt (j + 1) (by omega)) h1 (by omega)⟩
      have MP := Lib.hid fun W => parent_any jj (by omega) W
      obtain ⟨pj, hpj⟩ : ∃ pj, pj = parN jj := ⟨_, rfl⟩
      rw [← hpj] at MP ML
      rw [← hjj] at hlt hlt2 hadd
      rw [← hjj]
      clear hjj hpj hj
      go_wp2_with fail
      apply wp_region_to (fun W => Hid (FQ w [] W p h (linksF a b jj) 1 zeroOw (fun _ => false) a b t))
      case h =>
        go_region_with (first | (go_at_call 40; refine (MP.out _).mono ?_; rintro r w5 ⟨rfl, hb5⟩; have q5 := (ML.out w5 (by first | exact (Below.refl _ _).drew.trans hb5 | exact hb5)).1) | (go_at_call 28; refine (ML.out _ (by first | exact (Below.refl _ _).drew.trans hb5 | exact hb5)).2.mono ?_; rintro r w7 ⟨rfl, HQ⟩))
        all_goals exact ⟨rfl, HQ⟩
      intro W9 HQ9
      clear ML MP q0
      go_wp2_with fail
      refine ⟨⟨jj, by omega, by rw [Int.natCast_add]; rfl, HQ9⟩, ?_⟩
      simp only [intOf]
      omega
end

end Go.Proofs.Ytefekboacghnjaa

namespace Go.Proofs.Ytefekboacghnjaa
open Go.RowKit Go.Maps

section
variable {c g : Int} {X : FSt}
theorem FOk.get_gr (_ : FOk c g X) {i : Nat} {x : Gr} (hx : X.S.G i = some x) : grOf X.S i = x := by
  unfold grOf
  rw [hx]
  rfl
theorem freeF_step (S : HS) {i : Nat} (hi : i < 6) (h0 : i ≠ 0) : freeF S i = (!(grOf S i).stopped && freeF S (parN i)) := by
  unfold freeF
  rw [ancN_step i hi h0, List.all_cons]
theorem parN_lt_self (i : Nat) (hi : i < 6) (h0 : i ≠ 0) : parN i < i := by
  match i, hi, h0 with
  | 1, _, _ => exact (by decide)
  | 2, _, _ => exact (by decide)
  | 3, _, _ => exact (by decide)
  | 4, _, _ => exact (by decide)
  | 5, _, _ => exact (by decide)
/-- where no group above is stopped and a queue holds somebody, the root's holds somebody -/
theorem FOk.rises (O : FOk c g X) : ∀ i : Nat, i < 6 → freeF X.S i = true → (grOf X.S i).q.L ≠ [] → (grOf X.S 0).q.L ≠ []
  | i, hi, hf, hL => by
    by_cases h0 : i = 0
    · rw [h0] at hL; exact hL
    · rw [freeF_step X.S hi h0, Bool.and_eq_true] at hf
      have hlt := parN_lt_self i hi h0
      have hx := O.at_ hi
      have hp := O.at_ (i := parN i) (by omega)
      have hon := O.good.set i _ h0 hx
      have hs : shouldB (grOf X.S i) = true := by
        unfold shouldB
        rw [hf.1]
        cases hq : (grOf X.S i).q.L with
        | nil => exact absurd hq hL
        | cons a l => rfl
      rw [hs] at hon
      obtain ⟨e, he, _⟩ := O.good.inv.on i _ (parN i) _ h0 hx (O.up hi h0) hp hon
      exact O.rises (parN i) (by omega) hf.2 (fun h => by rw [h] at he; simp at he)
theorem FOk.lt6 (O : FOk c g X) {i : Nat} {x : Gr} (hx : X.S.G i = some x) : i < 6 := by
  refine Decidable.byContradiction fun h => ?_
  rw [O.more i (by omega)] at hx
  simp at hx
theorem FOk.free_up (O : FOk c g X) {u : Nat} (o : OnUp X.S 0 u) : freeF X.S u = true := by
  induction o with
  | refl => rfl
  | @step u v y h0 h1 h2 h3 _ ih =>
    have hu := O.lt6 h1
    rw [freeF_step X.S hu h0, O.get_gr h1, Bool.and_eq_true]
    have hon := O.good.set u y h0 h1
    rw [h2] at hon
    have hv : v = parN u := by
      have := O.up hu h0
      rw [O.get_gr h1, h3] at this
      exact Int.ofNat.inj this
    rw [← hv]
    refine ⟨?_, ih⟩
    unfold shouldB at hon
    cases hst : y.stopped with
    | false => rfl
    | true => rw [hst] at hon; simp at hon
theorem stopped_same {S S' : HS} (h : SameL S S') (i : Nat) : (grOf S' i).stopped = (grOf S i).stopped := by
  unfold grOf
  cases hx : S.G i with
  | none => rw [(h.2.2 i).1 hx]
  | some x =>
    obtain ⟨d, hd⟩ := (h.2.2 i).2 x hx
    rw [hd]
    rfl
theorem free_same {S S' : HS} (h : SameL S S') (i : Nat) : freeF S' i = freeF S i := by
  unfold freeF
  refine congrArg (fun f => (ancN i).all f) (funext fun j => ?_)
  rw [stopped_same h j]
/-- who runs behind Pick: some task that is here and free, where there is one; else nobody -/
theorem FOk.runs (O : FOk c g X) : (runI 9 (pickH 9 X.S) = -1 ∧ ∀ n : Nat, n < 8 → (X.here n && freeF (pickH 9 X.S) (homeN n)) = false) ∨
    ∃ n : Nat, n < 8 ∧ runI 9 (pickH 9 X.S) = (n : Int) ∧ X.here n = true ∧ freeF (pickH 9 X.S) (homeN n) = true := by
  obtain ⟨r, e1, _, e3⟩ := O.good.inv.tree.root
  obtain ⟨_, hsame, hcur, _⟩ := pick_way 9 X.S 0 r O.good e1 (by omega)
  have hrun : runI 9 (pickH 9 X.S) = endI (wayF pickN 9 X.S 0).2 := by
    unfold runI pickH
    rw [hcur]
  rw [hrun]
  have hfree : ∀ i, freeF (pickH 9 X.S) i = freeF X.S i := free_same hsame
  rcases pick_sem 9 X.S 0 r O.good e1 (by omega) with ⟨h1, h2⟩ | ⟨_, t, u, p, e, ht, h2, h3, h4, h5, h6⟩
  · refine .inl ⟨by rw [h1]; rfl, fun n hn => ?_⟩
    rw [hfree]
    cases hh : X.here n with
    | false => rfl
    | true =>
      cases hf : freeF X.S (homeN n) with
      | false => rfl
      | true =>
        exfalso
        have hx := O.at_ (home_lt n)
        obtain ⟨e, he, _⟩ := (O.here n hn _ hx).1 hh
        have := O.rises _ (home_lt n) hf (fun h => by rw [h] at he; simp at he)
        rw [O.get_gr e1] at this
        exact this h2
  · obtain ⟨n, hn, k1, k2⟩ := O.ids u p h3 e h4 (by omega)
    have hnt : n = t := by omega
    subst hnt
    refine .inr ⟨n, hn, ?_, ?_, ?_⟩
    · rw [h2]
      unfold endI
      omega
    · rw [← k2] at h3
      exact (O.here n hn p h3).2 ⟨e, h4, h5⟩
    · rw [hfree, k2]
      exact O.free_up h6
end

end Go.Proofs.Ytefekboacghnjaa

namespace Go.Proofs.Ytefekboacghnjaa
open Go.ChangeShapes Go.WideShapes Go.ChangeAt Go.RowKit Go.Deep Go.Maps

def FW.nil : FW := ⟨0, 0, 0, 0, false⟩
def FwAt (w : World) (b o : Nat) (x : FW) : Prop :=
  w.cell? ⟨b, o, none⟩ = some (.int .i64 x.kind) ∧ w.cell? ⟨b, o + 1, none⟩ = some (.int .i64 x.who) ∧ w.cell? ⟨b, o + 2, none⟩ = some (.int .u32 x.wt) ∧ w.cell? ⟨b, o + 3, none⟩ = some (.int .u32 x.ns) ∧ w.cell? ⟨b, o + 4, none⟩ = some (.bool x.is)
def RowF (w : World) (B : Nat) (A : Option Addr) (xs : List FW) : Prop :=
  xs = [] ∨ ∃ b off : Nat, A = some ⟨b, off, none⟩ ∧ b < B ∧ ∀ j, j < xs.length → FwAt w b (off + j * 5) (xs.getD j FW.nil)
theorem FwAt.below {w w' : World} {B b o : Nat} {x : FW} (h : FwAt w b o x) (k : Below B w w') (hb : b < B) : FwAt w' b o x :=
  ⟨(k.cell (p := ⟨b, o, none⟩) hb).trans h.1, (k.cell (p := ⟨b, o + 1, none⟩) hb).trans h.2.1, (k.cell (p := ⟨b, o + 2, none⟩) hb).trans h.2.2.1, (k.cell (p := ⟨b, o + 3, none⟩) hb).trans h.2.2.2.1, (k.cell (p := ⟨b, o + 4, none⟩) hb).trans h.2.2.2.2⟩
theorem RowF.below {w w' : World} {B : Nat} {A : Option Addr} {xs : List FW} (h : RowF w B A xs) (k : Below B w w') : RowF w' B A xs := by
  rcases h with h | ⟨b, off, e, hb, hc⟩
  · exact .inl h
  · exact .inr ⟨b, off, e, hb, fun j hj => (hc j hj).below k hb⟩
theorem RowF.at_ {w : World} {B : Nat} {A : Option Addr} {xs : List FW} (h : RowF w B A xs) (hp : 0 < xs.length) : ∃ b off : Nat, A = some ⟨b, off, none⟩ ∧ b < B ∧ ∀ j, j < xs.length → FwAt w b (off + j * 5) (xs.getD j FW.nil) := by
  rcases h with rfl | h
  · simp at hp
  · exact h
theorem getD_fw (xs : List FW) {j : Nat} (hj : j < xs.length) : xs.getD j FW.nil = xs[j] := by
  rw [List.getD_eq_getElem?_getD, List.getElem?_eq_getElem hj]; rfl
section
variable {H : Type} {enc : TypeId × Value → H} {P : Program} {W : World} {v : Value} {x : DataW H × List MemPlace} {fuel : Nat}
/-- a slice of structs that came in, by its trodden data alone -/
theorem structs_trod20 {t e : TypeId} {fs : Array Field} (ht : P.underlying t = some (.slice e)) (he : P.underlying e = some (.struct fs)) (hone : oneCellFields P fs = true) (hC : P.cellsOf e = fs.size) (h0 : 0 < fs.size)
    (hf : DataW.trod enc P W 0 (fun _ => true) true fuel t [v] = some x) :
    ∃ (A : Option Addr) (len c : Nat), v = .slice A len c ∧ len ≤ 9223372036854775807 ∧ (len = 0 ∨ ∃ b off : Nat, A = some ⟨b, off, none⟩ ∧ b < W.heap.size ∧
      ∀ i, i < len → ∀ j f, fs[j]? = some f → ∃ (u : Value) (n : Nat) (y : DataW H × List MemPlace), W.cell? ⟨b, off + (i * fs.size + j), none⟩ = some u ∧ DataW.trod enc P W 0 (fun _ => true) true n f.type [u] = some y) := by
  rcases open_slice_fields ht he hone hC hf with ⟨hcs, _⟩ | ⟨x, len, cap, m, D, Pl, hcs, _, hl, hm, hmm, _, hi⟩
  · simp at hcs
    exact ⟨none, 0, 0, hcs, by simp, .inl rfl⟩
  · simp at hcs
    have hmm2 : m = cap := by simpa using hmm
    rw [hmm2] at hi
    unfold maxLen at hm
    refine ⟨some x, len, cap, hcs, by omega, ?_⟩
    rcases Nat.eq_zero_or_pos len with hz | hz
    · exact .inl hz
    · right
      obtain ⟨b, off, spot⟩ := x
      have hf0 : fs[0]? = some (fs[0]'h0) := Array.getElem?_eq_getElem h0
      obtain ⟨ys0, n0, _, _, _, hat0⟩ := hi 0 (by omega)
      obtain ⟨v0, y0, hc0, _, _⟩ := hat0 0 _ hf0
      have hspot : spot = none := by simpa [Addr.add] using World.cell?_spot hc0
      subst hspot
      refine ⟨b, off, rfl, ?_, fun i hi' j f hj => ?_⟩
      · have := World.block_lt_of_cell? W _ hc0
        simpa [Addr.add] using this
      · obtain ⟨ys, n, _, _, _, hat⟩ := hi i (by omega)
        obtain ⟨u, y, hc, _, ht'⟩ := hat j f hj
        refine ⟨u, n, y, ?_, ht'⟩
        have e : (⟨b, off, none⟩ : Addr).add (i * fs.size + j) = ⟨b, off + (i * fs.size + j), none⟩ := by
          rcases Nat.eq_zero_or_pos (i * fs.size + j) with h | h
          · rw [h]; simp [Addr.add]
          · simp [Addr.add]; omega
        rw [e] at hc
        exact hc
/-- an array of numbers or rows: each of its cells -/
theorem open_cells20 {t e : TypeId} {n b0 : Nat} {d : DataW H} {p : List MemPlace} (ht : P.underlying t = some (.array n e)) (hc : P.cellsOf t = n) (hc1 : P.cellsOf e = 1)
    (hv : Value.okWide P W .any b0 t v) (h : DataW.Trod enc P W 0 (fun _ => true) true t v d p) :
    ∃ cs : Array Value, v = .agg cs ∧ cs.size = n ∧ ∀ i, i < n → ∃ (u : Value) (m : Nat) (x : DataW H × List MemPlace), cs[i]? = some u ∧ DataW.trod enc P W 0 (fun _ => true) true m e [u] = some x := by
  obtain ⟨cs, rfl, hsz⟩ := okWide_array ht hv
  obtain ⟨fuel, hf⟩ := h
  obtain ⟨xs, m, _, _, hlen, hxl, hi⟩ := DataW.trod_array ht hf
  refine ⟨cs, rfl, hsz.trans hc, fun i hin => ?_⟩
  have h1 := hi i hin
  rw [hc1, Nat.mul_one] at h1
  have hsz2 : i < cs.toList.length := by simp; omega
  have e1 : (cs.toList.drop i).take 1 = [cs.toList[i]] := by
    rw [List.drop_eq_getElem_cons hsz2]; rfl
  have e2 : xs[i]? = some (xs[i]'(by omega)) := List.getElem?_eq_getElem (by omega)
  rw [show (Value.agg cs).cells = cs from rfl, e1, e2] at h1
  exact ⟨_, m, _, by simp [Array.getElem?_eq_getElem (show i < cs.size by simpa using hsz2)], h1⟩
end
section
variable {H : Type} {enc : TypeId × Value → H} {W : World} {v : Value} {d : DataW H} {p : List MemPlace} {b0 : Nat}
set_option maxRecDepth 100000 in
theorem works_trod20 {fuel : Nat} {x : DataW H × List MemPlace} (h : DataW.trod enc Try.prog W 0 (fun _ => true) true fuel 61 [v] = some x) :
    ∃ (A : Option Addr) (xs : List FW) (c : Nat), v = .slice A xs.length c ∧ RowF W W.heap.size A xs ∧ (∀ x ∈ xs, x.num) ∧ xs.length ≤ 9223372036854775807 := by
  obtain ⟨A, n, c, rfl, hn, hi⟩ := structs_trod20 Try.underlying61 Try.underlying67 (by kernel_rfl) (by kernel_rfl) (by decide) h
  rcases hi with h0 | ⟨b, off, rfl, hb, hi⟩
  · exact ⟨A, [], c, by rw [h0]; rfl, .inl rfl, by simp, by simp⟩
  · have key : ∀ j, j < n → ∃ x : FW, x.num ∧ FwAt W b (off + j * 5) x := fun j hj => by
      obtain ⟨v0, n0, y0, c0, t0⟩ := hi j hj 0 _ rfl
      obtain ⟨v1, n1, y1, c1, t1⟩ := hi j hj 1 _ rfl
      obtain ⟨v2, n2, y2, c2, t2⟩ := hi j hj 2 _ rfl
      obtain ⟨v3, n3, y3, c3, t3⟩ := hi j hj 3 _ rfl
      obtain ⟨v4, n4, y4, c4, t4⟩ := hi j hj 4 _ rfl
      obtain ⟨k, rfl, bk⟩ := trod_i64 Try.underlying3 t0
      obtain ⟨who, rfl, bw⟩ := trod_i64 Try.underlying3 t1
      obtain ⟨wt, rfl, bt⟩ := trod_u32 Try.underlying65 t2
      obtain ⟨ns, rfl, bn⟩ := trod_u32 Try.underlying65 t3
      obtain ⟨yy, rfl⟩ := trod_b Try.underlying4 t4
      refine ⟨⟨k, who, wt, ns, yy⟩, ⟨bk.1, bk.2, bw.1, bw.2, bt, bn⟩, c0, ?_, ?_, ?_, ?_⟩
      · rw [Nat.add_assoc]; exact c1
      · rw [Nat.add_assoc]; exact c2
      · rw [Nat.add_assoc]; exact c3
      · rw [Nat.add_assoc]; exact c4
    obtain ⟨f, hf1, _⟩ := pick_fn FW.nil key
    have hlen : ((List.range n).map f).length = n := by simp
    refine ⟨_, (List.range n).map f, c, by rw [hlen], .inr ⟨b, off, rfl, hb, fun j hj => ?_⟩, fun d hd => ?_, by rw [hlen]; exact hn⟩
    · rw [hlen] at hj
      have e : ((List.range n).map f).getD j FW.nil = f j := by rw [List.getD_eq_getElem?_getD]; simp [hj]
      rw [e]
      exact (hf1 j hj).2
    · obtain ⟨j, hj, rfl⟩ := List.mem_map.1 hd
      exact (hf1 j (List.mem_range.1 hj)).1
set_option maxRecDepth 100000 in
theorem open_works20 (_hv : Value.okWide Try.prog W .any b0 61 v) (h : DataW.Trod enc Try.prog W 0 (fun _ => true) true 61 v d p) :
    ∃ (A : Option Addr) (xs : List FW) (c : Nat), v = .slice A xs.length c ∧ RowF W W.heap.size A xs ∧ (∀ x ∈ xs, x.num) ∧ xs.length ≤ 9223372036854775807 := by
  obtain ⟨a0, len, cap, rfl⟩ := okWide_slice Try.underlying61 _hv
  obtain ⟨fuel, hf⟩ := h
  exact works_trod20 hf
set_option maxRecDepth 100000 in
theorem open_terms20 (hv : Value.okWide Try.prog W .any b0 60 v) (h : DataW.Trod enc Try.prog W 0 (fun _ => true) true 60 v d p) :
    ∃ a b c : Nat, v = .agg #[.int .u16 a, .int .u16 b, .int .u16 c] ∧ a < 65536 ∧ b < 65536 ∧ c < 65536 := by
  obtain ⟨cs, rfl, hsz, hi⟩ := open_cells20 Try.underlying60 (by kernel_rfl) (by kernel_rfl) hv h
  obtain ⟨v0, m0, x0, c0, t0⟩ := hi 0 (by omega)
  obtain ⟨v1, m1, x1, c1, t1⟩ := hi 1 (by omega)
  obtain ⟨v2, m2, x2, c2, t2⟩ := hi 2 (by omega)
  obtain ⟨a, rfl, ba⟩ := trod_u16 Try.underlying59 t0
  obtain ⟨b, rfl, bb⟩ := trod_u16 Try.underlying59 t1
  obtain ⟨c, rfl, bc⟩ := trod_u16 Try.underlying59 t2
  refine ⟨a, b, c, ?_, ba, bb, bc⟩
  obtain ⟨l⟩ := cs
  match l, hsz with
  | [x, y, z], _ =>
    simp at c0 c1 c2
    rw [c0, c1, c2]
end

end Go.Proofs.Ytefekboacghnjaa

namespace Go.Proofs.Ytefekboacghnjaa
open Go.ChangeShapes Go.WideShapes Go.ChangeAt Go.RowKit Go.Deep Go.Maps

section
variable {c g : Int} {X : FSt}
/-- who runs: some task that is here and free, where there is one; else nobody -/
def RunsOk (X : FSt) : Prop := (runI 9 X.S = -1 ∧ ∀ n : Nat, n < 8 → (X.here n && freeF X.S (homeN n)) = false) ∨ ∃ n : Nat, n < 8 ∧ runI 9 X.S = (n : Int) ∧ X.here n = true ∧ freeF X.S (homeN n) = true
theorem FOk.work_runs (O : FOk c g X) (t : Nat) (x : FW) : RunsOk (workF c t X x) := (O.work0 t x).runs
def someF (X : FSt) : Nat → Bool
  | 0 => false
  | n + 1 => someF X n || (X.here n && freeF X.S (homeN n))
theorem some_none (h : ∀ n : Nat, n < 8 → (X.here n && freeF X.S (homeN n)) = false) : ∀ n, n ≤ 8 → someF X n = false
  | 0, _ => rfl
  | n + 1, hn => by
    show (someF X n || _) = false
    rw [some_none h n (by omega), h n (by omega)]
    rfl
theorem some_one {m : Nat} (h : (X.here m && freeF X.S (homeN m)) = true) : ∀ n, m < n → someF X n = true
  | 0, hn => by omega
  | n + 1, hn => by
    show (someF X n || _) = true
    by_cases hm : m = n
    · subst hm
      rw [h, Bool.or_true]
    · rw [some_one h n (by omega)]
      rfl
/-- a farm in a round -/
structure FRound (w0 w : World) (p h : Nat) (c g : Int) (t k : Nat) (X : FSt) : Prop where
  at_ : FQ w0 [] w p h X.S (1 + 10000 * (k : Int)) X.own X.here c g t
  ok : FOk c g X
theorem FRound.below {w0 w w' : World} {p h t k : Nat} (a : FRound w0 w p h c g t k X) (b : Below w.heap.size w w') : FRound w0 w' p h c g t k X := ⟨a.at_.below b, a.ok⟩
theorem FRound.work {w0 w : World} {p h t k : Nat} (a : FRound w0 w p h c g t k X) (hk : k ≤ 100000) (g0 : 0 ≤ g) (g1 : g ≤ 65535) (ht : t ≤ 65536) (x : FW) (hx : x.num) :
    Calls Try.prog 34 #[.pointer (some ⟨p, 0, none⟩), fwV x] w fun r w' => r = .returned (.tuple #[]) ∧ Hid (FRound w0 w' p h c g t (k + 1) (workF c t X x)) :=
  (work_any a.at_ a.ok (by omega) g0 g1 ht x hx).mono fun r w' hp => ⟨hp.1, Lib.hid ⟨hp.2.out.mono (by omega) (by omega), a.ok.work t x⟩⟩
theorem start_round (a b d : Nat) (ha : a < 65536) (hb : b < 65536) (hd : d < 65536) (w : World) :
    Calls Try.prog 33 #[termsV a b d] w fun r w' => ∃ p h, r = .returned (.pointer (some ⟨p, 0, none⟩)) ∧ Hid (FRound w w' p h a b (1 + d) 0 (startF a b)) :=
  (begun_any a b d ha hb hd w).mono fun r w' hp => by
    obtain ⟨p, h, hr, hQ⟩ := hp
    exact ⟨p, h, hr, Lib.hid ⟨hQ.out.mono (by omega) (by omega), start_ok a b⟩⟩
end
end Go.Proofs.Ytefekboacghnjaa
