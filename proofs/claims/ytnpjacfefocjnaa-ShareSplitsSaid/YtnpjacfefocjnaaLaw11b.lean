/-
  THE LAWS OF LAYER 11 (share), the second part: a slice of words that came in; splits are the document's.
-/
import Derived.Test.YtnpjacfefocjnaaLaw11
namespace Go.Proofs.Ytnpjacfefocjnaa
open Go.ChangeShapes Go.WideShapes Go.ChangeAt Go.RowKit

section
variable {H : Type} {enc : TypeId × Value → H} {P : Program} {W : World} {v : Value} {d : DataW H} {p : List MemPlace} {b0 : Nat}
/-- A slice of integers of one kind, as the cells of its elements. -/
theorem open_ints_nat {k : IntKind} {t e : TypeId} (ht : P.underlying t = some (.slice e)) (he : P.underlying e = some (.int k)) (hc : P.cellsOf e = 1)
    (hv : Value.okWide P W .any b0 t v) (h : DataW.Trod enc P W 0 (fun _ => true) true t v d p) :
    ∃ (A : Option Addr) (zs : List Int) (c : Nat), v = .slice A zs.length c ∧ zs.length ≤ 9223372036854775807 ∧ (zs = [] ∨ ∃ b off : Nat, A = some ⟨b, off, none⟩ ∧ b < W.heap.size ∧ ∀ j, j < zs.length → W.cell? ⟨b, off + j, none⟩ = some (.int k (zs.getD j 0))) ∧
      ∀ n ∈ zs, (Lit.int k n).wf = true := by
  obtain ⟨a0, len, cap, rfl⟩ := okWide_slice ht hv
  obtain ⟨fuel, hf⟩ := h
  rcases open_ints ht he hc hf with ⟨hcs, _⟩ | ⟨x, l, c, zs, hcs, _, hl, hm, hz, _, hcell, hwz⟩
  · simp [Value.cells] at hcs
    obtain ⟨rfl, rfl, rfl⟩ := hcs
    exact ⟨none, [], 0, rfl, by simp, .inl rfl, by simp⟩
  · simp [Value.cells] at hcs
    obtain ⟨rfl, rfl, rfl⟩ := hcs
    have hz' : zs.length = cap := by simpa using hz
    unfold maxLen at hm
    have hlen : (zs.take len).length = len := by simp; omega
    refine ⟨some x, zs.take len, cap, by rw [hlen], by rw [hlen]; omega, ?_, fun n hn => hwz n (List.mem_of_mem_take hn)⟩
    rcases Nat.eq_zero_or_pos len with h0 | h0
    · left; rw [h0]; rfl
    · right
      obtain ⟨b, off, spot⟩ := x
      have hc0 := hcell 0 (by omega)
      have hspot : spot = none := by simpa [Addr.add] using World.cell?_spot hc0
      subst hspot
      refine ⟨b, off, rfl, ?_, fun j hj => ?_⟩
      · have := World.block_lt_of_cell? W _ hc0
        simpa [Addr.add] using this
      · have hj2 : j < len := by rw [hlen] at hj; exact hj
        have h1 := hcell j (by omega)
        have e : (⟨b, off, none⟩ : Addr).add j = ⟨b, off + j, none⟩ := by
          rcases Nat.eq_zero_or_pos j with rfl | hj0
          · simp [Addr.add]
          · simp [Addr.add]; omega
        rw [e] at h1
        rw [h1]
        simp [List.getD, hj2]

theorem open_u64s {t e : TypeId} (ht : P.underlying t = some (.slice e)) (he : P.underlying e = some (.int .u64)) (hc0 : P.cellsOf e = 1) (hv : Value.okWide P W .any b0 t v) (h : DataW.Trod enc P W 0 (fun _ => true) true t v d p) :
    ∃ (A : Option Addr) (xs : List Nat) (c : Nat), v = .slice A xs.length c ∧ U64s W W.heap.size A xs ∧ Words xs ∧ xs.length ≤ 9223372036854775807 := by
  obtain ⟨A, zs, c, rfl, hl, hc, hw⟩ := open_ints_nat ht he hc0 hv h
  have hnn : ∀ j, j < zs.length → 0 ≤ zs.getD j 0 ∧ zs.getD j 0 ≤ 18446744073709551615 := fun j hj => by
    have : zs.getD j 0 ∈ zs := by simp [List.getD, List.getElem?_eq_getElem hj]
    exact bounds_u64 (hw _ this)
  have hg : ∀ j, j < zs.length → (zs.map Int.toNat).getD j 0 = (zs.getD j 0).toNat := fun j hj => by
    simp [List.getD, List.getElem?_eq_getElem hj]
  refine ⟨A, zs.map Int.toNat, c, by simp, ?_, ?_, by simpa using hl⟩
  · rcases hc with h0 | ⟨b, off, rfl, hb, hcell⟩
    · left; rw [h0]; rfl
    · right
      refine ⟨b, off, rfl, hb, fun j hj => ?_⟩
      have hj2 : j < zs.length := by simpa using hj
      rw [hcell j hj2, hg j hj2, Int.toNat_of_nonneg (hnn j hj2).1]
  · intro j hj
    have hj2 : j < zs.length := by simpa using hj
    rw [hg j hj2]
    have := hnn j hj2
    omega
end

namespace shareSplits
set_option maxRecDepth 100000 in
set_option maxHeartbeats 1000000 in
theorem walk (s : Nat) (A : Option Addr) (xs : List Nat) (c : Nat) (hs : s < 18446744073709551616) (w : World) (hA : U64s w w.heap.size A xs) (hx : Words xs) (hl : xs.length ≤ 9223372036854775807) :
    Calls Try.prog 19 #[.int .u64 s, .slice A xs.length c] w fun e w' => e = .returned (.bool true) ∧ Below w.heap.size w w' := by
  by_cases h2 : 200 < xs.length
  · have t1 : decide ((200 : Int) < (xs.length : Int)) = true := decide_eq_true (by omega)
    have t2 : decide (200 < xs.length) = true := decide_eq_true h2
    generalize xs.length = n at *
    go_enter Try.func19, Try.ntmps19
    go_wp2_with fail
    refine (shown11 _).mono ?_
    rintro e w1 ⟨rfl, hb1⟩
    have hz1 := hb1.size
    go_wp2_with fail
    go_ret
    have B1 := hb1
    exact ⟨rfl, B1⟩
  · have t1 : decide ((200 : Int) < (xs.length : Int)) = false := decide_eq_false (by omega)
    have t2 : decide (200 < xs.length) = false := decide_eq_false h2
    have M1 := Lib.hid fun W (h : U64s W W.heap.size A xs) => split_any W A xs c s h hx (by omega) hs
    have M2 := Lib.hid fun W (h : U64s W W.heap.size A xs) => refSplit_any W A xs c s h hx (by omega) hs
    have m3 := fun W A1 A2 c1 c2 B1 B2 h1 h2 h3 h4 => same_any W A1 A2 (splitN s xs) (splitN s xs) c1 c2 B1 B2 h1 h2 (by rw [split_len]; omega) (by rw [split_len]; omega) h3 h4
    rw [show decide (splitN s xs = splitN s xs) = true from decide_eq_true rfl] at m3
    have M3 := Lib.hid m3
    clear m3
    generalize splitN s xs = ys at *
    generalize hn : xs.length = n at *
    have HN := Lib.hid hn
    clear hn
    go_enter Try.func19, Try.ntmps19
    go_wp2_with fail
    refine (shown11 _).mono ?_
    rintro e w1 ⟨rfl, hb1⟩
    have hz1 := hb1.size
    go_wp2_with fail
    refine (M1.out _ ((hA.keep hb1).more hz1)).mono ?_
    rintro e w2 ⟨v1, rfl, ho1, hb2⟩
    obtain ⟨A1, c1, rfl, hU1⟩ := own_words ho1
    have hz2 := hb2.size
    go_wp2_with fail
    have B2 := hb1.trans (hb2.mono hz1)
    refine (M2.out _ ((hA.keep B2).more (by omega))).mono ?_
    rintro e w3 ⟨v2, rfl, ho2, hb3⟩
    obtain ⟨A2, c2, rfl, hU2⟩ := own_words ho2
    have hz3 := hb3.size
    go_wp2_with fail
    refine (M3.out _ _ _ _ _ _ _ (hU1.keep hb3) hU2 hz3 (Nat.le_refl _)).mono ?_
    rintro e w4 ⟨rfl, hb4⟩
    go_wp2_with fail
    go_ret
    exact ⟨rfl, B2.trans ((hb3.mono (by omega)).trans (hb4.mono (by omega)))⟩
end shareSplits

end Go.Proofs.Ytnpjacfefocjnaa
