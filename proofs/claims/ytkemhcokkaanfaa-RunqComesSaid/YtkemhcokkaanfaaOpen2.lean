/-
  Arguments opened to cells: slices of small numbers; entities.
-/
import Derived.Test.YtkemhcokkaanfaaOpen
import Derived.Lib.SmallJoins
namespace Go.Proofs.Ytkemhcokkaanfaa
open Go.ChangeShapes Go.WideShapes Go.ChangeAt Go.RowKit Go.Deep

/-- What a slice of numbers that are not below 0 reads as: nothing, or cells of a block below B. -/
def NumsAt (k : IntKind) (w : World) (B : Nat) (A : Option Addr) (xs : List Nat) : Prop :=
  xs = [] ∨ ∃ b off : Nat, A = some ⟨b, off, none⟩ ∧ b < B ∧ ∀ j, j < xs.length → w.cell? ⟨b, off + j, none⟩ = some (.int k ((xs.getD j 0 : Nat) : Int))
theorem NumsAt.at_ {k : IntKind} {w : World} {B : Nat} {A : Option Addr} {xs : List Nat} (h : NumsAt k w B A xs) (hp : 0 < xs.length) : ∃ b off : Nat, A = some ⟨b, off, none⟩ ∧ b < B ∧ ∀ j, j < xs.length → w.cell? ⟨b, off + j, none⟩ = some (.int k ((xs.getD j 0 : Nat) : Int)) := by
  rcases h with h | h
  · rw [h] at hp; simp at hp
  · exact h

section
variable {H : Type} {enc : TypeId × Value → H} {P : Program} {W : World} {v : Value} {d : DataW H} {p : List MemPlace} {b0 : Nat}
theorem trod_ints {k : IntKind} {t e : TypeId} {fuel : Nat} {y : DataW H × List MemPlace} (ht : P.underlying t = some (.slice e)) (he : P.underlying e = some (.int k)) (hc : P.cellsOf e = 1)
    (hf : DataW.trod enc P W 0 (fun _ => true) true fuel t [v] = some y) :
    ∃ (A : Option Addr) (zs : List Int) (c : Nat), v = .slice A zs.length c ∧ zs.length ≤ 9223372036854775807 ∧ (zs = [] ∨ ∃ b off : Nat, A = some ⟨b, off, none⟩ ∧ b < W.heap.size ∧ ∀ j, j < zs.length → W.cell? ⟨b, off + j, none⟩ = some (.int k (zs.getD j 0))) ∧
      (∀ n ∈ zs, (Lit.int k n).wf = true) ∧ zs.length ≤ c := by
  rcases open_ints ht he hc hf with ⟨hcs, _⟩ | ⟨x, l, c, zs, hcs, _, hl, hm, hz, _, hcell, hwz⟩
  · simp at hcs
    subst hcs
    exact ⟨none, [], 0, rfl, by simp, .inl rfl, by simp, by simp⟩
  · simp at hcs
    subst hcs
    have hz' : zs.length = c := by simpa using hz
    unfold maxLen at hm
    have hlen : (zs.take l).length = l := by simp; omega
    refine ⟨some x, zs.take l, c, by rw [hlen], by rw [hlen]; omega, ?_, fun n hn => hwz n (List.mem_of_mem_take hn), by rw [hlen]; exact hl⟩
    rcases Nat.eq_zero_or_pos l with h0 | h0
    · left; rw [h0]; rfl
    · right
      obtain ⟨b, off, spot⟩ := x
      have hc0 := hcell 0 (by omega)
      have hspot : spot = none := by simpa [Addr.add] using World.cell?_spot hc0
      subst hspot
      refine ⟨b, off, rfl, ?_, fun j hj => ?_⟩
      · have := World.block_lt_of_cell? W _ hc0
        simpa [Addr.add] using this
      · have hj2 : j < l := by rw [hlen] at hj; exact hj
        have h1 := hcell j (by omega)
        have e : (⟨b, off, none⟩ : Addr).add j = ⟨b, off + j, none⟩ := by
          rcases Nat.eq_zero_or_pos j with rfl | hj0
          · simp [Addr.add]
          · simp [Addr.add]; omega
        rw [e] at h1
        rw [h1]
        simp [List.getD, hj2]

theorem trod_nums {k : IntKind} {t e : TypeId} {fuel : Nat} {y : DataW H × List MemPlace} (M : Nat) (ht : P.underlying t = some (.slice e)) (he : P.underlying e = some (.int k)) (hc : P.cellsOf e = 1) (hM : ∀ z, (Lit.int k z).wf = true → 0 ≤ z ∧ z < M)
    (hf : DataW.trod enc P W 0 (fun _ => true) true fuel t [v] = some y) :
    ∃ (A : Option Addr) (xs : List Nat) (c : Nat), v = .slice A xs.length c ∧ NumsAt k W W.heap.size A xs ∧ (∀ j, j < xs.length → xs.getD j 0 < M) ∧ xs.length ≤ 9223372036854775807 := by
  obtain ⟨A, zs, c, rfl, hl, hc, hw, _⟩ := trod_ints ht he hc hf
  have hnn : ∀ j, j < zs.length → 0 ≤ zs.getD j 0 ∧ zs.getD j 0 < M := fun j hj => by
    have : zs.getD j 0 ∈ zs := by simp [List.getD, List.getElem?_eq_getElem hj]
    exact hM _ (hw _ this)
  have hg : ∀ j, j < zs.length → (zs.map Int.toNat).getD j 0 = (zs.getD j 0).toNat := fun j hj => by
    simp [List.getD, List.getElem?_eq_getElem hj]
  refine ⟨A, zs.map Int.toNat, c, by simp, ?_, ?_, by simpa using hl⟩
  · rcases hc with h0 | ⟨b, off, rfl, hb, hcell⟩
    · left; rw [h0]; rfl
    · right
      refine ⟨b, off, rfl, hb, fun j hj => ?_⟩
      have hj2 : j < zs.length := by simpa using hj
      rw [hcell j hj2, hg j hj2, Int.toNat_of_nonneg (hnn j hj2).1]
  · intro j hj
    have hj2 : j < zs.length := by simpa using hj
    rw [hg j hj2]
    have := hnn j hj2
    omega

theorem okWide_slice1 {t e : TypeId} (ht : P.underlying t = some (.slice e)) (hv : Value.okWide P W .any b0 t v) (h : DataW.Trod enc P W 0 (fun _ => true) true t v d p) : ∃ fuel y, DataW.trod enc P W 0 (fun _ => true) true fuel t [v] = some y := by
  obtain ⟨a0, len, cap, rfl⟩ := okWide_slice ht hv
  obtain ⟨fuel, hf⟩ := h
  exact ⟨fuel, _, hf⟩

theorem open_u16s {t e : TypeId} (ht : P.underlying t = some (.slice e)) (he : P.underlying e = some (.int .u16)) (hc : P.cellsOf e = 1) (hv : Value.okWide P W .any b0 t v) (h : DataW.Trod enc P W 0 (fun _ => true) true t v d p) :
    ∃ (A : Option Addr) (xs : List Nat) (c : Nat), v = .slice A xs.length c ∧ NumsAt .u16 W W.heap.size A xs ∧ (∀ j, j < xs.length → xs.getD j 0 < 65536) ∧ xs.length ≤ 9223372036854775807 := by
  obtain ⟨fuel, y, hf⟩ := okWide_slice1 ht hv h
  exact trod_nums 65536 ht he hc (fun z hz => by have := bounds_u16 hz; omega) hf
theorem open_u32s {t e : TypeId} (ht : P.underlying t = some (.slice e)) (he : P.underlying e = some (.int .u32)) (hc : P.cellsOf e = 1) (hv : Value.okWide P W .any b0 t v) (h : DataW.Trod enc P W 0 (fun _ => true) true t v d p) :
    ∃ (A : Option Addr) (xs : List Nat) (c : Nat), v = .slice A xs.length c ∧ NumsAt .u32 W W.heap.size A xs ∧ (∀ j, j < xs.length → xs.getD j 0 < 4294967296) ∧ xs.length ≤ 9223372036854775807 := by
  obtain ⟨fuel, y, hf⟩ := okWide_slice1 ht hv h
  exact trod_nums 4294967296 ht he hc (fun z hz => by have := bounds_u32 hz; omega) hf
theorem trod_i64 {base : Nat} {sp : Nat → Bool} {held : Bool} {fuel : Nat} {t : TypeId} {x : DataW H × List MemPlace} (ht : P.underlying t = some (.int .i64)) (h : DataW.trod enc P W base sp held fuel t [v] = some x) : ∃ n : Int, v = .int .i64 n ∧ -9223372036854775808 ≤ n ∧ n ≤ 9223372036854775807 := by
  obtain ⟨a, e0, _, wa⟩ := DataW.trod_int ht h
  obtain rfl : v = .int .i64 a := by simpa using e0
  exact ⟨a, rfl, bounds_i64 wa⟩
theorem trod_b {base : Nat} {sp : Nat → Bool} {held : Bool} {fuel : Nat} {t : TypeId} {x : DataW H × List MemPlace} (ht : P.underlying t = some .bool) (h : DataW.trod enc P W base sp held fuel t [v] = some x) : ∃ b : Bool, v = .bool b := by
  obtain ⟨a, e0, _⟩ := DataW.trod_bool ht h
  exact ⟨a, by simpa using e0⟩
end

section
variable {H : Type} {enc : TypeId × Value → H} {W : World} {v : Value} {d : DataW H} {p : List MemPlace} {b0 : Nat}
set_option maxRecDepth 100000 in
theorem open_ent (hv : Value.okWide Try.prog W .any b0 52 v) (h : DataW.Trod enc Try.prog W 0 (fun _ => true) true 52 v d p) :
    ∃ (i : Int) (x : Nat) (u : Int) (r : Nat), v = .agg #[.int .i64 i, .int .u64 x, .int .i64 u, .int .u64 r] ∧ -9223372036854775808 ≤ i ∧ i ≤ 9223372036854775807 ∧ x < 18446744073709551616 ∧ -9223372036854775808 ≤ u ∧ u ≤ 9223372036854775807 ∧ r < 18446744073709551616 := by
  obtain ⟨v0, v1, v2, v3, y0, y1, y2, y3, n, rfl, _, _, h0, h1, h2, h3⟩ := Joins.open_agg4 Try.underlying52 (by kernel_rfl) (by kernel_rfl) hv h
  obtain ⟨i, rfl, bi⟩ := trod_i64 Try.underlying3 h0
  obtain ⟨x, rfl, bx⟩ := trod_u64 Try.underlying22 h1
  obtain ⟨u, rfl, bu⟩ := trod_i64 Try.underlying2 h2
  obtain ⟨r, rfl, br⟩ := trod_u64 Try.underlying22 h3
  exact ⟨i, x, u, r, rfl, bi.1, bi.2, bx, bu.1, bu.2, br⟩
end

end Go.Proofs.Ytkemhcokkaanfaa
