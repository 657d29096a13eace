/-
  doleref18: Credit.
-/
import Derived.Test.YtkemhcokkaanfaaLRef2
namespace Go.Proofs.Ytkemhcokkaanfaa
open Go.RowKit Go.Maps

abbrev bookV (A : Option Addr) (n c : Nat) : Value := .agg #[.slice A n c]
def RCreditEnd (A : Option Addr) (R : List Deed18) (c : Nat) (A' : Option Addr) (zs : List Int) (c' : Nat) (k ns : Int) (w : World) (e : Ending) (w' : World) : Prop :=
  Below w.heap.size w w' ∧ ((credArg zs k ns = true ∧ e = .returned (.tuple #[bookV A R.length c, .int .i64 1])) ∨
    (credArg zs k ns = false ∧ 9223372036854775807 - totR R < ns ∧ e = .returned (.tuple #[bookV A R.length c, .int .i64 3])) ∨
    (credArg zs k ns = false ∧ ns ≤ 9223372036854775807 - totR R ∧ ∃ g cap, e = .returned (.tuple #[bookV (some ⟨g, 0, none⟩) (R.length + 1) cap, .int .i64 0]) ∧
      RowsIn w' w'.heap.size (some ⟨g, 0, none⟩) (R.length + 1) cap ((R ++ [(⟨A', zs, c', k, ns, false⟩ : Deed18)]).flatMap dcells)))

theorem ownsRow_setCell {w : World} {base : Nat} {e : TypeId} {k n : Nat} {v : Value} {xs : List Value} (h : w.ownsRow base e k v n xs) (p : Addr) (hp : p.block < base) (u : Value) : (w.setCell p u).ownsRow base e k v n xs := by
  refine ⟨h.1, ?_⟩
  rcases h.2 with h0 | ⟨g, cap, cur, e0, hb, hh, r⟩
  · exact .inl h0
  · exact .inr ⟨g, cap, cur, e0, hb, (Below.heap_setCell w p u g (by omega)).trans hh, r⟩
theorem ref_blks {w5 w6 w7 : World} {q b n : Nat} {cs : Array Value} {ty e e2 : TypeId} {v1 : Value} {xs ys : List Value} (Z : Blk w5 b cs ty) (hb : b < q) (hg1 : (w5.alloc (.cells #[] e)).grownBy w6 (some w5.heap.size)) (hown1 : w6.ownsRow q e 4 v1 n xs)
    (hg2 : (w6.alloc (.cells ys.toArray e2)).grownBy w7 v1.ownBlock) : Blk w7 b cs ty := by
  have h1 := Z.alloc (.cells #[] e)
  have h2 := h1.kept hg1 (by intro h; injection h with h; have := Z.lt; omega)
  have h3 := h2.alloc (.cells ys.toArray e2)
  refine h3.kept hg2 (fun h => ?_)
  have := (hown1.lt b h.symm).1
  omega
theorem ref_kept {w5 w6 w7 : World} {b n m : Nat} {A : Option Addr} {c : Nat} {ty e e2 : TypeId} {v1 : Value} {xs ys : List Value} (Z0 : Blk w5 b #[.slice A n c] ty) (Z1 : Blk w5 (b + 1) #[.slice none 0 0] ty) (hg1 : (w5.alloc (.cells #[] e)).grownBy w6 (some w5.heap.size)) (hown1 : w6.ownsRow (b + 2) e 4 v1 m xs)
    (hg2 : (w6.alloc (.cells ys.toArray e2)).grownBy w7 v1.ownBlock) :
    w7.cell? ⟨b, 0, none⟩ = some (.slice A n c) ∧ w7.cell? ⟨b + 1, 0, none⟩ = some (.slice none 0 0) ∧ w7.frozen? ⟨b, 0, none⟩ = false ∧ w7.frozen? ⟨b + 1, 0, none⟩ = false := by
  have h0 := ref_blks Z0 (by omega) hg1 hown1 hg2
  have h1 := ref_blks Z1 (by omega) hg1 hown1 hg2
  exact ⟨Blk.cell h0 0, Blk.cell h1 0, Blk.frozen h0 0, Blk.frozen h1 0⟩

set_option maxRecDepth 100000 in
set_option maxHeartbeats 4000000 in
theorem rcredit_any (A : Option Addr) (R : List Deed18) (c : Nat) (A' : Option Addr) (zs : List Int) (c' : Nat) (k ns : Int) (w : World) (hR : RowsIn w w.heap.size A R.length c (R.flatMap dcells)) (hn : R.length ≤ 900) (hp : ∀ d ∈ R, 0 ≤ d.ns) (ht : totR R ≤ 9223372036854775807)
    (hI : IntsAt w w.heap.size A' zs) (hzl : zs.length ≤ 1000) (hzc : zs.length ≤ c') :
    Calls Try.prog 55 #[bookV A R.length c, .slice A' zs.length c', .int .i64 k, .int .i64 ns] w (RCreditEnd A R c A' zs c' k ns w) := by
  obtain ⟨i0, hi, iz0, iz1, iz2⟩ := info_parts infoR
  have MT := Lib.hid fun w' (hb : Below w.heap.size w w') => rtotal_any A R c w' ((hR.below hb).deeds.mono hb.size) (by omega) hp ht
  have hT0 := sumIf_pos (fun _ => true) R hp
  obtain ⟨T, hTT⟩ : ∃ T, T = totR R := ⟨_, rfl⟩
  have HTT := Lib.hid hTT
  rw [← hTT] at MT ht
  rw [show sumIf (fun _ => true) R = T from hTT.symm] at hT0
  have HR := Lib.hid hR
  obtain ⟨n, hnR⟩ : ∃ n, n = R.length := ⟨_, rfl⟩
  rw [← hnR]
  rw [← hnR] at hn MT
  have HN := Lib.hid hnR
  have HO := Lib.hid (once_iff zs)
  have HI := Lib.hid hI
  have HF := Lib.hid (And.intro (flat_len R) (flat_one R))
  obtain ⟨m, hm⟩ : ∃ m, m = zs.length := ⟨_, rfl⟩
  rw [← hm]
  rw [← hm] at hzl hzc
  have HM := Lib.hid hm
  have HPOST := Lib.hid (Eq.refl (RCreditEnd A R c A' zs c' k ns w))
  generalize hpost : RCreditEnd A R c A' zs c' k ns w = POST at HPOST
  have HP := Lib.hid hpost
  have hX0 : Blk ((w.alloc (.cells #[.slice A n c] 81)).alloc (.cells #[.slice none 0 0] 81)) w.heap.size #[.slice A n c] 81 := (Blk.new w _ _).alloc _
  have hX1 : Blk ((w.alloc (.cells #[.slice A n c] 81)).alloc (.cells #[.slice none 0 0] 81)) (w.heap.size + 1) #[.slice none 0 0] 81 := by
    have := Blk.new (w.alloc (.cells #[.slice A n c] 81)) #[.slice none 0 0] 81
    rw [World.size_alloc] at this
    exact this
  have hB0 : Below w.heap.size w ((w.alloc (.cells #[.slice A n c] 81)).alloc (.cells #[.slice none 0 0] 81)) := ((Below.refl _ _).alloc (Nat.le_refl _) _).alloc (by simp) _
  have HX := Lib.hid (And.intro hX0 (And.intro hX1 hB0))
  clear hTT hnR hI hR hp hm hpost HPOST hX0 hX1 hB0
  -- the three answers
  have E1 : Hid (∀ w', Below w.heap.size w w' → credArg zs k ns = true → POST (.returned (.tuple #[bookV A n c, .int .i64 1])) w') := Lib.hid fun w' hb h => by
    rw [← HP.out]; exact ⟨hb, .inl ⟨h, by rw [HN.out]⟩⟩
  have E3 : Hid (∀ w', Below w.heap.size w w' → credArg zs k ns = false → 9223372036854775807 - T < ns → POST (.returned (.tuple #[bookV A n c, .int .i64 3])) w') := Lib.hid fun w' hb h h2 => by
    rw [← HP.out]; exact ⟨hb, .inr (.inl ⟨h, by rw [← HTT.out]; exact h2, by rw [HN.out]⟩)⟩
  by_cases h1 : ns < 0
  · have hbad : credArg zs k ns = true := by unfold credArg; rw [decide_eq_true h1]; rfl
    have t1 : decide (ns < 0) = true := decide_eq_true h1
    have HBad := Lib.hid hbad
    clear hbad
    go_enter Try.func55, Try.ntmps55
    go_wp2_with fail
    exact bodyPost_ret (v := .tuple #[bookV A n c, .int .i64 1]) (by simp [results, Try.results55, go_sem]) rfl (E1.out _ (by repeat (first | exact Below.refl _ _ | refine Below.setCell ?_ (by simp) _ | refine Below.alloc ?_ (by simp; try omega) _)) HBad.out)
  · have t1 : decide (ns < 0) = false := decide_eq_false h1
    by_cases h2 : k < 0
    · have hbad : credArg zs k ns = true := by unfold credArg; rw [decide_eq_true h2]; simp
      have t2 : decide (k < 0) = true := decide_eq_true h2
      have HBad := Lib.hid hbad
      clear hbad
      go_enter Try.func55, Try.ntmps55
      go_wp2_with fail
      exact bodyPost_ret (v := .tuple #[bookV A n c, .int .i64 1]) (by simp [results, Try.results55, go_sem]) rfl (E1.out _ (by repeat (first | exact Below.refl _ _ | refine Below.setCell ?_ (by simp) _ | refine Below.alloc ?_ (by simp; try omega) _)) HBad.out)
    · have t2 : decide (k < 0) = false := decide_eq_false h2
      have HA : Hid (credArg zs k ns = !onceB zs) := Lib.hid (by unfold credArg; rw [t1, t2]; rfl)
      go_enter Try.func55, Try.ntmps55
      go_wp2_with fail
      obtain ⟨W0, hW0⟩ : ∃ W0, W0 = (w.alloc (.cells #[.slice A n c] 81)).alloc (.cells #[.slice none 0 0] 81) := ⟨_, rfl⟩
      rw [← hW0] at HX ⊢
      clear hW0
      go_loopw [10] (fun s10 wr => ∃ j : Nat, j ≤ m ∧ s10 = .int .i64 j ∧ Hid (∀ i, i < j → 0 ≤ zs.getD i 0 ∧ zs.getD i 0 ∉ zs.take i) ∧ Below W0.heap.size W0 wr) (fun s10 _ => m - (intOf s10).toNat)
      case atStart => exact ⟨0, by omega, rfl, Lib.hid (fun i hi => by omega), Below.refl _ _⟩
      case round =>
        obtain ⟨j, hj, rfl, HJ, hBj⟩ := hrel
        have Y0 := HX.out.1.below hBj HX.out.1.lt
        have Y1 := HX.out.2.1.below hBj HX.out.2.1.lt
        have hBw : Below w.heap.size w wr := HX.out.2.2.trans (hBj.mono HX.out.2.2.size)
        have hz0 := Y0.lt
        have hz1 := Y1.lt
        have x0 : wr.cell? ⟨w.heap.size, 0, none⟩ = some (.slice A n c) := Blk.cell Y0 0
        have x1 : wr.cell? ⟨w.heap.size + 1, 0, none⟩ = some (.slice none 0 0) := Blk.cell Y1 0
        have f0 : wr.frozen? ⟨w.heap.size, 0, none⟩ = false := Blk.frozen Y0 0
        have f1 : wr.frozen? ⟨w.heap.size + 1, 0, none⟩ = false := Blk.frozen Y1 0
        have HB := Lib.hid (And.intro hBw hBj)
        have HY := Lib.hid (And.intro Y0 Y1)
        by_cases hlt : j < m
        · have hjz : j < zs.length := by rw [← HM.out]; exact hlt
          have hIw := HI.out.below hBw
          rcases hIw with h | ⟨b, off, rfl, hbB, hc⟩
          · rw [h] at hjz; simp at hjz
          have cz := hc j hjz
          have hl : (zs.take j).length = j := by rw [List.length_take]; omega
          have MH : ∀ q, Calls Try.prog 59 #[.slice (some ⟨b, off, none⟩) j c', .int .i64 (zs.getD j 0)] (wr.drewN q) fun e w' => e = .returned (.bool (decide (zs.getD j 0 ∈ zs.take j))) ∧ wr.drewN q = w' := fun q => by
            have := lhas_any (wr.drewN q) (some ⟨b, off, none⟩) (zs.take j) c' (zs.getD j 0) (.inr ⟨b, off, rfl, Nat.lt_of_lt_of_le hbB hBw.size, fun i hi => by
              rw [hl] at hi
              have e : (zs.take j).getD i 0 = zs.getD i 0 := by rw [List.getD_eq_getElem?_getD, List.getElem?_take_of_lt hi, ← List.getD_eq_getElem?_getD]
              rw [e]
              exact hc i (by omega)⟩) (by omega)
            rw [hl] at this
            exact this
          have z1 : decide ((j : Int) < (m : Int)) = true := decide_eq_true (by omega)
          have z2 : decide (j < m) = true := decide_eq_true hlt
          have j0 : (0 : Int) ≤ (j : Int) := Int.natCast_nonneg _
          have j1 : (j : Int) < (m : Int) := by omega
          have j2 : (j : Int) ≤ (c' : Int) := by omega
          have j3 : j ≤ c' := by omega
          have hbad : ¬ (0 ≤ zs.getD j 0 ∧ zs.getD j 0 ∉ zs.take j) → credArg zs k ns = true := fun h => by
            rw [HA.out]
            have : onceB zs = false := by
              by_cases e : onceB zs = true
              · exact absurd ((HO.out.1 e) j hjz) h
              · simpa using e
            rw [this]; rfl
          have hJ2 : (0 ≤ zs.getD j 0 ∧ zs.getD j 0 ∉ zs.take j) → ∀ i, i < j + 1 → 0 ≤ zs.getD i 0 ∧ zs.getD i 0 ∉ zs.take i := fun h i hi => by
            rcases Nat.lt_or_ge i j with h3 | h3
            · exact HJ.out i h3
            · obtain rfl : i = j := by omega
              exact h
          have HBad := Lib.hid hbad
          have HJ2 := Lib.hid hJ2
          clear hc hBw hBj Y0 Y1 hbad hJ2 hl hjz
          by_cases hneg : 0 ≤ zs.getD j 0
          · by_cases hin : zs.getD j 0 ∈ zs.take j
            · have HB2 : Hid (credArg zs k ns = true) := Lib.hid (HBad.out (fun h => h.2 hin))
              rw [decide_eq_true hin] at MH
              replace MH := Lib.hid MH
              have t3 : decide (zs.getD j 0 < 0) = false := decide_eq_false (by omega)
              clear HBad HJ2 hin hneg
              generalize zs.getD j 0 = z at *
              go_wp2_with fail
              go_big_quiet ((go_at_call 59; exact quiet_left (MH.out _)))
              go_wp2_with fail
              exact bodyPost_ret (v := .tuple #[bookV A n c, .int .i64 1]) (by simp [results, Try.results55, go_sem, x1]) rfl (E1.out _ ((below_drewN HB.out.1 _).setCell (by simp) _) HB2.out)
            · have HJ3 := Lib.hid (HJ2.out ⟨hneg, hin⟩)
              rw [decide_eq_false hin] at MH
              replace MH := Lib.hid MH
              have t3 : decide (zs.getD j 0 < 0) = false := decide_eq_false (by omega)
              clear HBad HJ2 hin hneg
              generalize zs.getD j 0 = z at *
              go_wp2_with fail
              go_big_quiet ((go_at_call 59; exact quiet_left (MH.out _)))
              go_wp2_with fail
              go_roundw
              case rel => exact ⟨j + 1, by omega, by go_num, HJ3, below_drewN HB.out.2 _⟩
              case measure => simp [intOf]; omega
          · have HB2 : Hid (credArg zs k ns = true) := Lib.hid (HBad.out (fun h => hneg h.1))
            have t3 : decide (zs.getD j 0 < 0) = true := decide_eq_true (by omega)
            clear HBad HJ2 hneg MH
            generalize zs.getD j 0 = z at *
            go_wp2_with fail
            go_big_quiet (fail)
            go_wp2_with fail
            exact bodyPost_ret (v := .tuple #[bookV A n c, .int .i64 1]) (by simp [results, Try.results55, go_sem, x1]) rfl (E1.out _ ((below_drewN HB.out.1 _).setCell (by simp) _) HB2.out)
        · obtain rfl : j = m := by omega
          have z1 : decide ((j : Int) < (j : Int)) = false := decide_eq_false (by omega)
          have hgood : credArg zs k ns = false := by
            rw [HA.out, HO.out.2 (fun i hi => HJ.out i (by rw [HM.out]; exact hi))]; rfl
          have HG := Lib.hid hgood
          clear hgood hBw hBj Y0 Y1
          go_wp2_with fail
          refine (MT.out wr HB.out.1).mono ?_
          rintro e w5 ⟨rfl, hb5⟩
          clear x0 x1 f0 f1
          have Z0 := HY.out.1.below hb5 hz0
          have Z1 := HY.out.2.below hb5 hz1
          have hB5 := HB.out.1.trans (hb5.mono HB.out.1.size)
          have x0 : w5.cell? ⟨w.heap.size, 0, none⟩ = some (.slice A n c) := Blk.cell Z0 0
          have x1 : w5.cell? ⟨w.heap.size + 1, 0, none⟩ = some (.slice none 0 0) := Blk.cell Z1 0
          have f0 : w5.frozen? ⟨w.heap.size, 0, none⟩ = false := Blk.frozen Z0 0
          have f1 : w5.frozen? ⟨w.heap.size + 1, 0, none⟩ = false := Blk.frozen Z1 0
          have hy0 := Z0.lt
          have hy1 := Z1.lt
          have HZ := Lib.hid (And.intro Z0 (And.intro Z1 hB5))
          obtain ⟨r, hr⟩ : ∃ r, r = 9223372036854775807 - T := ⟨_, rfl⟩
          have e0 : IntKind.i64.wrap (9223372036854775807 - T) = r := by rw [IntKind.wrap_i64]; omega
          have HRR := Lib.hid hr
          clear hb5 Z0 Z1 hB5 hr hz0 hz1 MT
          by_cases hfull : r < ns
          · have t4 : decide (r < ns) = true := decide_eq_true hfull
            go_wp2_with fail
            exact bodyPost_ret (v := .tuple #[bookV A n c, .int .i64 3]) (by simp [results, Try.results55, go_sem, x1]) rfl (E3.out _ (HZ.out.2.2.setCell (by simp) _) HG.out (by rw [← HRR.out]; exact hfull))
          · have t4 : decide (r < ns) = false := decide_eq_false hfull
            have hBA : Below w.heap.size w (w5.alloc (.cells #[] 171)) := HZ.out.2.2.alloc HZ.out.2.2.size _
            have hown0 : (w5.alloc (.cells #[] 171)).ownsRow (w.heap.size + 2) 171 4 (.slice (some ⟨w5.heap.size, 0, none⟩) 0 0) 0 [] :=
              ⟨rfl, .inr ⟨w5.heap.size, 0, #[], rfl, by omega, Blk.new w5 #[] _, by omega, by unfold maxLen; omega, rfl, rfl⟩⟩
            have hsrc := (HR.out.below hBA).src
            rw [← HN.out] at hsrc
            have HSRC := Lib.hid hsrc
            have tok1 : True := trivial
            have hlen := HF.out.1
            rw [← HN.out] at hlen
            have hone := HF.out.2
            have HL := Lib.hid (And.intro hlen hone)
            generalize hfl : R.flatMap dcells = FL at *
            have HFL := Lib.hid hfl
            clear hsrc hBA hlen hone hfl HF
            go_wp2_with (first
              | (at_builtin; have _t := tok1; refine wpList_append_rows rfl _ _ 79 rfl (w.heap.size + 2) 171 i0 _ 4 48 Try.underlying79 hi iz0 iz1 iz2 rfl (by decide) _ 0 [] rfl hown0 A n c FL rfl HL.out.1 HSRC.out HL.out.2 (by unfold maxLen; omega) (by omega) (by simp; omega) ?_; intro v1 w6 hown1 hg1; clear tok1 x0 x1 f0 f1)
              | (at_builtin; refine wpList_append_own _ rfl _ _ 79 rfl (w.heap.size + 2) 171 i0 _ 4 48 Try.underlying79 hi iz0 iz1 iz2 rfl (by decide) _ _ _ rfl (hown1.alloc _) ⟨w6.heap.size, 0, none⟩ 1 1 [.slice A' j c', .int .i64 k, .int .i64 ns, .bool false] rfl rfl (cell_four_new _ _ _ _ _ _) (by simp [Value.oneCell']) (by unfold maxLen; omega) (by omega) (by have := hg1.size; simp at this; simp; omega) ?_; intro v2 w7 hown2 hg2 _; obtain ⟨g', cap', rfl⟩ := ownsRow_succ hown2; obtain ⟨x0, x1, f0, f1⟩ := ref_kept HZ.out.1 HZ.out.2.1 hg1 hown1 hg2))
            refine bodyPost_ret (v := .tuple #[bookV (some ⟨g', 0, none⟩) (n + 1) cap', .int .i64 0]) (by simp [results, Try.results55, go_sem, x1]) rfl ?_
            rw [← HP.out]
            have s5 := HZ.out.2.2.size
            have s6 : w5.heap.size + 1 ≤ w6.heap.size := by have := hg1.size; rwa [World.size_alloc] at this
            have hb6 : Below w.heap.size w w6 := (HZ.out.2.2.alloc s5 _).grown hg1 (by rw [World.size_alloc]; omega) (fun b hb => by
              have e : w5.heap.size = b := by injection hb
              omega)
            have hbel : Below w.heap.size w w7 := (hb6.alloc (by omega) _).grown hg2 (by rw [World.size_alloc]; omega) (fun b hb => by have := (hown1.lt b hb).1; omega)
            refine ⟨(hbel.setCell (by simp) _).setCell (by simp) _, .inr (.inr ⟨HG.out, by rw [← HTT.out]; have := HRR.out; omega, g', cap', by rw [HN.out], ?_⟩)⟩
            have hown3 := ownsRow_setCell (ownsRow_setCell hown2 ⟨w.heap.size, 0, none⟩ (by show w.heap.size < _; omega) (.slice (some ⟨g', 0, none⟩) (n + 1) cap')) ⟨w.heap.size + 1, 0, none⟩ (by show w.heap.size + 1 < _; omega) (.slice (some ⟨g', 0, none⟩) (n + 1) cap')
            obtain ⟨A1, c1, e1, hR1⟩ := own_rowsIn hown3
            injection e1 with e1 _ e2
            subst e1
            subst e2
            have ex : (R ++ [(⟨A', zs, c', k, ns, false⟩ : Deed18)]).flatMap dcells = ([] ++ FL) ++ [.slice A' j c', .int .i64 k, .int .i64 ns, .bool false] := by
              rw [List.flatMap_append, HFL.out, HM.out]
              rfl
            rw [ex, ← HN.out]
            have en : 0 + n + 1 = n + 1 := by omega
            rw [en] at hR1
            exact hR1

end Go.Proofs.Ytkemhcokkaanfaa
