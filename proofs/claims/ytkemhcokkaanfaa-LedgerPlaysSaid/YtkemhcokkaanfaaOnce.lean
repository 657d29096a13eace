/-
  ledger.once: whether numbers are not below 0, and none is there twice.
-/
import Derived.Test.YtkemhcokkaanfaaVals
import Derived.Lib.SlicesCompact
namespace Go.Proofs.Ytkemhcokkaanfaa
open Go.RowKit Go.Shelf
attribute [local go_sem] Oper.semAt_some

def onceB (zs : List Int) : Bool := decide (∀ z ∈ zs, 0 ≤ z) && decide zs.Nodup

theorem msort_perm (zs : List Int) : (msort zs).Perm zs := List.mergeSort_perm _ _
theorem msort_length (zs : List Int) : (msort zs).length = zs.length := (msort_perm zs).length_eq
theorem msort_sorted (zs : List Int) : (msort zs).Pairwise (· ≤ ·) := by
  have h := List.pairwise_mergeSort (le := fun x y : Int => decide (x ≤ y)) (fun a b c h1 h2 => by simp at *; omega) (fun a b => by simp; omega) zs
  exact h.imp (fun h => by simpa using h)
theorem msort_nodup (zs : List Int) : (msort zs).Nodup ↔ zs.Nodup := (msort_perm zs).nodup_iff

theorem compact_len (zs : List Int) (hs : zs.Pairwise (· ≤ ·)) : ((Lib.compact zs).length = zs.length) ↔ zs.Nodup := by
  have e : (Lib.compact zs).length = ((List.range zs.length).filter (Lib.keeps zs.toArray)).length := by simp [Lib.compact, Lib.compactUpTo]
  rw [e]
  have e2 : ((List.range zs.length).filter (Lib.keeps zs.toArray)).length = zs.length ↔ ∀ j ∈ List.range zs.length, Lib.keeps zs.toArray j = true := by
    have := List.length_filter_eq_length_iff (l := List.range zs.length) (p := Lib.keeps zs.toArray)
    rw [List.length_range] at this
    exact this
  rw [e2]
  have g : ∀ j, (hj : j < zs.length) → zs.toArray[j]! = zs[j] := fun j hj => by simp [getElem!_pos, hj]
  constructor
  · intro h
    rw [List.nodup_iff_pairwise_ne]
    rw [List.pairwise_iff_getElem] at hs ⊢
    -- each is above the one before it
    have step : ∀ j, (h1 : j + 1 < zs.length) → zs[j] < zs[j + 1] := fun j h1 => by
      have h2 := h (j + 1) (by simp; omega)
      have h3 := hs j (j + 1) (by omega) h1 (by omega)
      have h4 : zs.toArray[j + 1]! ≠ zs.toArray[j + 1 - 1]! := by
        intro h5
        rw [Lib.keeps_neg (by omega) h5] at h2
        cases h2
      rw [g (j + 1) h1, show j + 1 - 1 = j from rfl, g j (by omega)] at h4
      omega
    have up : ∀ d i, (h1 : i + 1 + d < zs.length) → zs[i] < zs[i + 1 + d] := by
      intro d
      induction d with
      | zero => intro i h1; exact step i (by omega)
      | succ d ih =>
        intro i h1
        have h2 := ih i (by omega)
        have h3 := step (i + 1 + d) (by omega)
        exact Int.lt_trans h2 h3
    intro i j hi hj hij
    have := up (j - i - 1) i (by omega)
    have e3 : i + 1 + (j - i - 1) = j := by omega
    simp only [e3] at this
    omega
  · intro h j hj
    simp at hj
    rcases Nat.eq_zero_or_pos j with rfl | hp
    · exact Lib.keeps_lt_one _ 0 (by omega)
    · refine Lib.keeps_pos ?_
      rw [g j hj, g (j - 1) (by omega)]
      intro h5
      have := (List.nodup_iff_pairwise_ne.1 h)
      rw [List.pairwise_iff_getElem] at this
      exact this (j - 1) j (by omega) hj (by omega) h5.symm

theorem once_false (zs : List Int) (h : ¬ 0 ≤ (msort zs).getD 0 0) (hz : zs ≠ []) : onceB zs = false := by
  have hl := msort_length zs
  have hp : 0 < zs.length := List.length_pos_iff.2 hz
  have hm : (msort zs).getD 0 0 ∈ msort zs := by
    rw [List.getD_eq_getElem?_getD, List.getElem?_eq_getElem (by omega)]
    exact List.getElem_mem _
  have hm2 := (msort_perm zs).mem_iff.1 hm
  unfold onceB
  rw [decide_eq_false (fun hall => h (hall _ hm2))]
  rfl

theorem once_true (zs : List Int) (h : 0 ≤ (msort zs).getD 0 0) : onceB zs = ((Lib.compact (msort zs)).length == zs.length) := by
  have hl := msort_length zs
  have hall : ∀ z ∈ zs, 0 ≤ z := by
    intro z hz
    have hz2 := (msort_perm zs).mem_iff.2 hz
    obtain ⟨i, hi, rfl⟩ := List.mem_iff_getElem.1 hz2
    have hs := msort_sorted zs
    rw [List.pairwise_iff_getElem] at hs
    have e : (msort zs).getD 0 0 = (msort zs)[0] := by rw [List.getD_eq_getElem?_getD, List.getElem?_eq_getElem (by omega)]; rfl
    rw [e] at h
    rcases Nat.eq_zero_or_pos i with rfl | hp
    · exact h
    · have := hs 0 i (by omega) hi hp
      omega
  unfold onceB
  rw [decide_eq_true hall, Bool.true_and]
  have h2 := compact_len (msort zs) (msort_sorted zs)
  rw [hl, msort_nodup] at h2
  by_cases hn : zs.Nodup
  · rw [decide_eq_true hn]; symm; rw [beq_iff_eq]; exact h2.2 hn
  · rw [decide_eq_false hn]; symm; rw [beq_eq_false_iff_ne]; exact fun h3 => hn (h2.1 h3)

theorem grownBy_compact {w : World} {g q : Nat} (o : Nat) (d : Array Int) : w.grownBy (Sort.putRow (Value.int .i64) (Sort.ahead w q) g o d) (some g) := by
  refine ⟨rfl, rfl, rfl, by simp [Sort.putRow, Sort.mapBlock, Sort.ahead], fun k hk hne => ?_⟩
  have : g ≠ k := fun e => hne (by rw [e])
  simp [Sort.putRow, Sort.mapBlock, Sort.ahead, Array.getElem?_modify, this]

set_option maxRecDepth 100000 in
set_option maxHeartbeats 2000000 in
theorem once_any (A : Option Addr) (zs : List Int) (c : Nat) (hreach : zs.length * 8 ≤ 140737488351232) (w : World) (hI : IntsAt w w.heap.size A zs) :
    Calls Try.prog 93 #[.slice A zs.length c] w fun e w' => e = .returned (.bool (onceB zs)) ∧ Below w.heap.size w w' := by
  obtain ⟨R, hR⟩ : ∃ R, R = onceB zs := ⟨_, rfl⟩
  rw [← hR]
  refine (callsIn_wide (n := 10)).1 ?_
  have hro : Fence.wide.round = none := rfl
  have hB0 : Below w.heap.size w (w.alloc (.cells #[.slice A zs.length c] 63)) := (Below.refl _ w).alloc (Nat.le_refl _) _
  have cV := values_in (10 - 1) A zs.length c w
  have cS := sorted_in (10 - 1) (by omega) w.heap.size A c zs hreach (w.alloc (.cells #[.slice A zs.length c] 63)) (by simp) (by rw [World.cell?_alloc_at _ _ _ _ (by simp)]; rfl) ((hI.below hB0).mono (by simp))
  have hF1 : Fence.wide.fn 128 := trivial
  have hF2 : Fence.wide.fn 101 := trivial
  have hF3 : Fence.wide.fn 129 := trivial
  refine callsIn_of_wp Try.func93 rfl trivial ?_ hro
  simp only [Try.ntmps93, List.size_toArray, List.length_cons, List.length_nil, Nat.reduceAdd, Nat.reduceSub, Array.replicate_succ, Array.replicate_zero, List.push_toArray, List.append_toArray, List.nil_append, List.cons_append]
  by_cases h0 : zs = []
  · subst h0
    gi_wp2_with (first | (gi_at_call 128; refine cV.mono ?_; rintro e w' ⟨rfl, rfl⟩) | (gi_at_call 101; refine cS.mono ?_; rintro e w' ⟨v, rfl, hrow, hb⟩; obtain ⟨p, cap', rfl⟩ : ∃ p cap', v = .slice p 0 cap' := (by rcases hrow.2 with ⟨rfl, _⟩ | ⟨g, cap', cur, rfl, _⟩; exact ⟨_, _, rfl⟩; exact ⟨_, _, rfl⟩)))
    gi_wp2
    all_goals first
      | (exact absurd (show some undef = some (Value.bool _) by assumption) (by simp [undef]))
      | (go_ret; exact ⟨by rw [hR]; rfl, hB0.trans (hb.mono (by simp))⟩)
  · have hp : 0 < zs.length := List.length_pos_iff.2 h0
    have hml := msort_length zs
    have cS2 : CallsIn Fence.wide (10 - 1) Try.prog 101 #[.func (.func 152) #[] #[.pointer (some ⟨w.heap.size, 0, none⟩)]] (w.alloc (.cells #[.slice A zs.length c] 63)) fun e W =>
        ∃ g cap', e = .returned (.slice (some ⟨g, 0, none⟩) zs.length cap') ∧ W.cell? ⟨g, 0, none⟩ = some (.int .i64 ((msort zs).getD 0 0)) ∧ Hid (Below w.heap.size w W) ∧
          Hid (CallsIn Fence.wide (10 - 1) Try.prog 129 #[.slice (some ⟨g, 0, none⟩) zs.length cap'] W fun e w' => e = .returned (.slice (some ⟨g, 0, none⟩) (Lib.compact (msort zs)).length cap') ∧ Below w.heap.size w w') := by
      refine cS.mono ?_
      rintro e W ⟨v, rfl, hrow, hb⟩
      have hB1 : Below w.heap.size w W := hB0.trans (hb.mono (by simp))
      rcases hrow.2 with ⟨rfl, hz⟩ | ⟨g, cap', cur, rfl, hbase, hgb, r1, r2, r3, r4⟩
      · omega
      have hT : cur.toList.take (msort zs).length = (msort zs).map encZ := by rw [hml]; simpa using r4
      have hH : Sort.Holds (Value.int .i64) W g 0 (msort zs).toArray := holds_of_block_i hgb hT
      have hc0 : W.cell? ⟨g, 0, none⟩ = some (.int .i64 ((msort zs).getD 0 0)) := by
        have := (hH 0 (by simp; omega)).1
        simpa [List.getD, hml, hp] using this
      have hgz : w.heap.size ≤ g := by simp at hbase; omega
      have cC := (callsIn_wide (n := 10 - 1)).2 (Try.slices_Compact_int g 0 cap' (msort zs) W hH (by omega) (by omega))
      rw [hml] at cC
      refine ⟨g, cap', rfl, hc0, Lib.hid hB1, Lib.hid (cC.mono ?_)⟩
      rintro e w' ⟨rfl, q, rfl⟩
      exact ⟨rfl, hB1.grown (grownBy_compact _ _) hB1.size (fun j hj => by cases hj; exact hgz)⟩
    have HT := once_true zs
    have HF : (¬ 0 ≤ (msort zs).getD 0 0) → onceB zs = false := fun h => once_false zs h h0
    rw [← hR] at HT HF
    clear cS hR hI hB0 h0 hml
    generalize (msort zs).getD 0 0 = m at *
    generalize (Lib.compact (msort zs)).length = k at *
    generalize zs.length = n at *
    have t2 : ((n : Int) == 0) = false := by simp; omega
    have t4 : (0 : Int) < (n : Int) := by omega
    by_cases hm : 0 ≤ m
    · have t1 : decide (0 ≤ m) = true := decide_eq_true hm
      have HR := HT hm
      have t3 : ((k : Int) == (n : Int)) = R := by
        rw [HR]
        by_cases h : k = n
        · simp [h]
        · rw [beq_eq_false_iff_ne.2 h, beq_eq_false_iff_ne]; omega
      have t5 : (k == n) = R := HR.symm
      clear HR HT HF
      gi_wp2_with (first | (gi_at_call 128; refine cV.mono ?_; rintro e w' ⟨rfl, rfl⟩) | (gi_at_call 101; refine cS2.mono ?_; rintro e W ⟨g, cap', rfl, hc0, HB1, HC⟩) | (gi_at_call 129; refine HC.out.mono ?_; rintro e w' ⟨rfl, hB2⟩))
      go_ret
      exact ⟨rfl, hB2⟩
    · have t1 : decide (0 ≤ m) = false := decide_eq_false hm
      have HR := HF hm
      subst HR
      clear HT HF
      gi_wp2_with (first | (gi_at_call 128; refine cV.mono ?_; rintro e w' ⟨rfl, rfl⟩) | (gi_at_call 101; refine cS2.mono ?_; rintro e W ⟨g, cap', rfl, hc0, HB1, HC⟩))
      go_ret
      exact ⟨rfl, HB1.out⟩

end Go.Proofs.Ytkemhcokkaanfaa
