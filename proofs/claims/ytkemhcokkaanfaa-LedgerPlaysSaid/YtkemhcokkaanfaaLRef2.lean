/-
  doleref18: Credit.
-/
import Derived.Test.YtkemhcokkaanfaaLRef
import Derived.Test.YtkemhcokkaanfaaBetter
import Derived.Laws.AppendOwnNone
namespace Go.Proofs.Ytkemhcokkaanfaa
open Go.RowKit Go.Maps

/-- an append of a row that may be nil -/
theorem wpList_append_rows {P : Program} {w : World} {ops : Array Oper} {rest : List Oper} {o : Oper} {a : Act} {Q : Exit → Act → World → Prop} (hgd : o.guard = none) (s x : Operand) (t : TypeId)
    (ho : o.op = .call { callee := .builtin .append, args := #[s, x], argTypes := #[t, t] })
    (base : Nat) (e : TypeId) (i : TypeInfo) (z : Value) (size bytes : Nat) (ht : P.underlying t = some (.slice e)) (hi : P.info? e = some i) (hz : i.zero = some z)
    (hsize : i.size = size) (hby : i.bytes = bytes) (hzs : z.cells.size = size) (hsz : 0 < size)
    (v : Value) (n : Nat) (xs : List Value) (hs : a.eval s = v) (hown : w.ownsRow base e size v n xs)
    (A : Option Addr) (m c : Nat) (news : List Value) (hx : a.eval x = .slice A m c) (hl : news.length = m * size)
    (hA : (A = none ∧ m = 0 ∧ c = 0) ∨ ∃ ad, A = some ad ∧ ∀ j u, news[j]? = some u → w.cell? (ad.add j) = some u) (h1 : ∀ u ∈ news, u.oneCell' = true)
    (h63 : n + m ≤ maxLen) (hbytes : (n + m) * bytes ≤ 140737488355328) (hbase : base ≤ w.heap.size)
    (h : ∀ v' w', w'.ownsRow base e size v' (n + m) (xs ++ news) → w.grownBy w' v.ownBlock → wpList P ops Q rest (a.put o.dst v') w') : wpList P ops Q (o :: rest) a w := by
  rcases hA with ⟨rfl, rfl, rfl⟩ | ⟨ad, rfl, hnews⟩
  · have hn : news = [] := List.eq_nil_of_length_eq_zero (by simpa using hl)
    subst hn
    exact wpList_append_own_none hgd s x t ho base e i size ht hi v n xs hs hown hx (h v w (by simpa using hown) (World.grownBy.refl _ _))
  · exact wpList_append_own w hgd s x t ho base e i z size bytes ht hi hz hsize hby hzs hsz v n xs hs hown ad m c news hx hl hnews h1 h63 hbytes hbase fun v' w' h2 h3 _ => h v' w' h2 h3

/-- a row of rows of k cells, nil or in a block of its own -/
def RowsIn (w : World) (B : Nat) (A : Option Addr) (n c : Nat) (xs : List Value) : Prop :=
  (A = none ∧ n = 0 ∧ c = 0) ∨ ∃ g, A = some ⟨g, 0, none⟩ ∧ g < B ∧ ∀ i, i < xs.length → w.cell? ⟨g, i, none⟩ = xs[i]?
theorem RowsIn.below {w w' : World} {B : Nat} {A : Option Addr} {n c : Nat} {xs : List Value} (h : RowsIn w B A n c xs) (k : Below B w w') : RowsIn w' B A n c xs := by
  rcases h with h | ⟨g, e, hg, hc⟩
  · exact .inl h
  · exact .inr ⟨g, e, hg, fun i hi => (k.cell (p := ⟨g, i, none⟩) hg).trans (hc i hi)⟩
theorem RowsIn.mono {w : World} {B C : Nat} {A : Option Addr} {n c : Nat} {xs : List Value} (h : RowsIn w B A n c xs) (k : B ≤ C) : RowsIn w C A n c xs := by
  rcases h with h | ⟨g, e, hg, hc⟩
  · exact .inl h
  · exact .inr ⟨g, e, by omega, hc⟩
theorem RowsIn.src {w : World} {B : Nat} {A : Option Addr} {n c : Nat} {xs : List Value} (h : RowsIn w B A n c xs) : (A = none ∧ n = 0 ∧ c = 0) ∨ ∃ ad, A = some ad ∧ ∀ j u, xs[j]? = some u → w.cell? (ad.add j) = some u := by
  rcases h with h | ⟨g, e, hg, hc⟩
  · exact .inl h
  · refine .inr ⟨_, e, fun j u hu => ?_⟩
    have hj := (List.getElem?_eq_some_iff.1 hu).1
    have : (⟨g, 0, none⟩ : Addr).add j = ⟨g, j, none⟩ := by
      rcases Nat.eq_zero_or_pos j with rfl | h0
      · simp [Addr.add]
      · simp [Addr.add]; omega
    rw [this, hc j hj, hu]
theorem own_rowsIn {w : World} {base : Nat} {e : TypeId} {k n : Nat} {v : Value} {xs : List Value} (h : w.ownsRow base e k v n xs) : ∃ A c, v = .slice A n c ∧ RowsIn w w.heap.size A n c xs := by
  have hl := h.1
  rcases own_cells h with ⟨rfl, rfl⟩ | ⟨g, c, rfl, _, hg, _, hc⟩
  · exact ⟨none, 0, rfl, .inl ⟨rfl, rfl, rfl⟩⟩
  · exact ⟨_, c, rfl, .inr ⟨g, rfl, hg, fun i hi => hc i (by omega)⟩⟩
theorem RowsIn.deeds {w : World} {B : Nat} {A : Option Addr} {c : Nat} {R : List Deed18} (h : RowsIn w B A R.length c (R.flatMap dcells)) : Deeds18 w B A R := by
  rcases h with ⟨rfl, hz, _⟩ | ⟨g, rfl, hg, hc⟩
  · exact .inl (List.eq_nil_of_length_eq_zero hz)
  · refine .inr ⟨g, 0, rfl, hg, fun j hj => ?_⟩
    have ej : R.getD j Deed18.none = R[j] := by rw [List.getD_eq_getElem?_getD, List.getElem?_eq_getElem hj]; rfl
    have hlen : (R.flatMap dcells).length = R.length * 4 := by
      clear hc ej hj
      induction R with
      | nil => rfl
      | cons d R ih => rw [List.flatMap_cons, List.length_append, ih]; simp [dcells]; omega
    have key : ∀ i, i < 4 → w.cell? ⟨g, 0 + j * 4 + i, none⟩ = (dcells (R.getD j Deed18.none))[i]? := fun i hi => by
      rw [Nat.zero_add, hc (j * 4 + i) (by rw [hlen]; omega), flat_get dcells 4 dcells_len R j i hi, List.getElem?_eq_getElem hj, ej]
      rfl
    exact ⟨key 0 (by omega), key 1 (by omega), key 2 (by omega), key 3 (by omega)⟩
theorem flat_len (R : List Deed18) : (R.flatMap dcells).length = R.length * 4 := by
  induction R with
  | nil => rfl
  | cons d R ih => rw [List.flatMap_cons, List.length_append, ih]; simp [dcells]; omega
theorem flat_one (R : List Deed18) : ∀ u ∈ R.flatMap dcells, u.oneCell' = true := by
  intro u hu
  obtain ⟨d, _, hd⟩ := List.mem_flatMap.1 hu
  simp only [dcells, List.mem_cons, List.mem_nil_iff, or_false] at hd
  rcases hd with rfl | rfl | rfl | rfl <;> rfl

theorem infoR : (Try.prog.info? 171).map (fun i => (i.zero, i.size, i.bytes)) = some (some (.agg #[.slice none 0 0, .int .i64 0, .int .i64 0, .bool false]), 4, 48) := by kernel_rfl

/-- the path's numbers one by one -/
theorem once_iff (zs : List Int) : onceB zs = true ↔ ∀ j, j < zs.length → 0 ≤ zs.getD j 0 ∧ zs.getD j 0 ∉ zs.take j := by
  unfold onceB
  rw [Bool.and_eq_true, decide_eq_true_eq, decide_eq_true_eq]
  have g : ∀ j (hj : j < zs.length), zs.getD j 0 = zs[j] := fun j hj => by rw [List.getD_eq_getElem?_getD, List.getElem?_eq_getElem hj]; rfl
  constructor
  · rintro ⟨h1, h2⟩ j hj
    rw [g j hj]
    refine ⟨h1 _ (List.getElem_mem _), fun hm => ?_⟩
    obtain ⟨i, hi, e⟩ := List.mem_iff_getElem.1 hm
    rw [List.length_take] at hi
    rw [List.getElem_take] at e
    have := (List.nodup_iff_pairwise_ne.1 h2)
    rw [List.pairwise_iff_getElem] at this
    exact this i j (by omega) hj (by omega) e
  · intro h
    refine ⟨fun z hz => ?_, ?_⟩
    · obtain ⟨j, hj, rfl⟩ := List.mem_iff_getElem.1 hz
      rw [← g j hj]
      exact (h j hj).1
    · rw [List.nodup_iff_pairwise_ne, List.pairwise_iff_getElem]
      intro i j hi hj hij e
      refine (h j hj).2 ?_
      rw [g j hj, ← e]
      exact List.mem_iff_getElem.2 ⟨i, by rw [List.length_take]; omega, by rw [List.getElem_take]⟩

end Go.Proofs.Ytkemhcokkaanfaa
