/-
  THE LAWS OF LAYER 11 (share), the second part: a slice of words that came in; splits are the document's.
-/
import Derived.Test.YtkemhcokkaanfaaLaw11
namespace Go.Proofs.Ytkemhcokkaanfaa
open Go.ChangeShapes Go.WideShapes Go.ChangeAt Go.RowKit

section
variable {H : Type} {enc : TypeId × Value → H} {P : Program} {W : World} {v : Value} {d : DataW H} {p : List MemPlace} {b0 : Nat}
/-- A slice of integers of one kind, as the cells of its elements. -/
theorem open_ints_nat {k : IntKind} {t e : TypeId} (ht : P.underlying t = some (.slice e)) (he : P.underlying e = some (.int k)) (hc : P.cellsOf e = 1)
    (hv : Value.okWide P W .any b0 t v) (h : DataW.Trod enc P W 0 (fun _ => true) true t v d p) :
    ∃ (A : Option Addr) (zs : List Int) (c : Nat), v = .slice A zs.length c ∧ zs.length ≤ 9223372036854775807 ∧ (zs = [] ∨ ∃ b off : Nat, A = some ⟨b, off, none⟩ ∧ b < W.heap.size ∧ ∀ j, j < zs.length → W.cell? ⟨b, off + j, none⟩ = some (.int k (zs.getD j 0))) ∧
      ∀ n ∈ zs, (Lit.int k n).wf = true := by
  obtain ⟨a0, len, cap, rfl⟩ := okWide_slice ht hv
  obtain ⟨fuel, hf⟩ := h
  rcases open_ints ht he hc hf with ⟨hcs, _⟩ | ⟨x, l, c, zs, hcs, _, hl, hm, hz, _, hcell, hwz⟩
  · simp [Value.cells] at hcs
    obtain ⟨rfl, rfl, rfl⟩ := hcs
    exact ⟨none, [], 0, rfl, by simp, .inl rfl, by simp⟩
  · simp [Value.cells] at hcs
    obtain ⟨rfl, rfl, rfl⟩ := hcs
    have hz' : zs.length = cap := by simpa using hz
    unfold maxLen at hm
    have hlen : (zs.take len).length = len := by simp; omega
    refine ⟨some x, zs.take len, cap, by rw [hlen], by rw [hlen]; omega, ?_, fun n hn => hwz n (List.mem_of_mem_take hn)⟩
    rcases Nat.eq_zero_or_pos len with h0 | h0
    · left; rw [h0]; rfl
    · right
      obtain ⟨b, off, spot⟩ := x
      have hc0 := hcell 0 (by omega)
      have hspot : spot = none := by simpa [Addr.add] using World.cell?_spot hc0
      subst hspot
      refine ⟨b, off, rfl, ?_, fun j hj => ?_⟩
      · have := World.block_lt_of_cell? W _ hc0
        simpa [Addr.add] using this
      · have hj2 : j < len := by rw [hlen] at hj; exact hj
        have h1 := hcell j (by omega)
        have e : (⟨b, off, none⟩ : Addr).add j = ⟨b, off + j, none⟩ := by
          rcases Nat.eq_zero_or_pos j with rfl | hj0
          · simp [Addr.add]
          · simp [Addr.add]; omega
        rw [e] at h1
        rw [h1]
        simp [List.getD, hj2]

theorem open_u64s {t e : TypeId} (ht : P.underlying t = some (.slice e)) (he : P.underlying e = some (.int .u64)) (hc0 : P.cellsOf e = 1) (hv : Value.okWide P W .any b0 t v) (h : DataW.Trod enc P W 0 (fun _ => true) true t v d p) :
    ∃ (A : Option Addr) (xs : List Nat) (c : Nat), v = .slice A xs.length c ∧ U64s W W.heap.size A xs ∧ Words xs ∧ xs.length ≤ 9223372036854775807 := by
  obtain ⟨A, zs, c, rfl, hl, hc, hw⟩ := open_ints_nat ht he hc0 hv h
  have hnn : ∀ j, j < zs.length → 0 ≤ zs.getD j 0 ∧ zs.getD j 0 ≤ 18446744073709551615 := fun j hj => by
    have : zs.getD j 0 ∈ zs := by simp [List.getD, List.getElem?_eq_getElem hj]
    exact bounds_u64 (hw _ this)
  have hg : ∀ j, j < zs.length → (zs.map Int.toNat).getD j 0 = (zs.getD j 0).toNat := fun j hj => by
    simp [List.getD, List.getElem?_eq_getElem hj]
  refine ⟨A, zs.map Int.toNat, c, by simp, ?_, ?_, by simpa using hl⟩
  · rcases hc with h0 | ⟨b, off, rfl, hb, hcell⟩
    · left; rw [h0]; rfl
    · right
      refine ⟨b, off, rfl, hb, fun j hj => ?_⟩
      have hj2 : j < zs.length := by simpa using hj
      rw [hcell j hj2, hg j hj2, Int.toNat_of_nonneg (hnn j hj2).1]
  · intro j hj
    have hj2 : j < zs.length := by simpa using hj
    rw [hg j hj2]
    have := hnn j hj2
    omega
end

namespace shareSplits
end shareSplits

end Go.Proofs.Ytkemhcokkaanfaa
