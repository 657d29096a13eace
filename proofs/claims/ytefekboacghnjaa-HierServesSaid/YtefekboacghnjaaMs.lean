/-
  The farm of chapter 20: how many stand in each queue, and how heavy they are.
  The farm of chapter 20 from round to round: what its queues tell.
-/
import Derived.Test.YtefekboacghnjaaMr

namespace Go.Proofs.Ytefekboacghnjaa
open Go.RowKit Go.Maps

theorem ents_perm {X : QS} (h : X.ok) : X.ents.Perm X.L := by
  have hp : (ksOf X.L).Perm (X.L.map En.key) := by
    refine (List.perm_ext_iff_of_nodup ?_ ?_).2 fun k => ksOf_mem X.L k
    · refine (ksOf_up X.L).imp fun {a b} hab he => ?_
      subst he
      exact keyLt_irrefl _ hab
    · exact List.pairwise_map.2 ((List.pairwise_map.1 h.ids).imp fun hab he => hab (congrArg Prod.snd he))
  have hq := hp.map (fun k : Int × Int => (X.get k.2).getD ⟨0, 0, 0, 0⟩)
  rw [List.map_map] at hq
  have e : X.L.map ((fun k : Int × Int => (X.get k.2).getD ⟨0, 0, 0, 0⟩) ∘ En.key) = X.L := by
    conv => rhs; rw [← List.map_id X.L]
    refine List.map_congr_left fun y hy => ?_
    show (X.get y.id).getD _ = y
    rw [h.get hy]
    rfl
  rw [e] at hq
  exact hq
theorem loadL_perm {l m : List En} (h : l.Perm m) : loadL l = loadL m := by
  induction h with
  | nil => rfl
  | cons x _ ih => simp only [loadL, ih]
  | swap x y l => simp only [loadL]; omega
  | trans _ _ h1 h2 => exact h1.trans h2
theorem filter_sum {α : Type} (p : α → Bool) : ∀ l : List α, (l.filter p).length = (l.map fun x => (p x).toNat).sum
  | [] => rfl
  | a :: l => by
    rw [List.filter_cons, List.map_cons, List.sum_cons, ← filter_sum p l]
    cases p a with
    | true => simp; omega
    | false => simp
section
variable {c g : Int} {X : FSt}
def hN (X : FSt) (n : Nat) : Nat := (X.here n).toNat
def oN (X : FSt) (i : Nat) : Nat := (grOf X.S i).on.toNat
def expL (X : FSt) (u : Nat) : List Int := ((List.range 8).filter fun n : Nat => X.here n && homeN n == u).map (fun n : Nat => 2 * (n : Int)) ++ ((List.range 6).filter fun i : Nat => (grOf X.S i).on && (i != 0 && parN i == u)).map fun i : Nat => 2 * (i : Int) + 1
theorem expL_nodup (X : FSt) (u : Nat) : (expL X u).Nodup := by
  unfold expL
  have nd : ∀ (n : Nat) (p : Nat → Bool), ((List.range n).filter p).Nodup := fun n p => List.filter_sublist.nodup List.nodup_range
  rw [List.nodup_append]
  refine ⟨List.pairwise_map.2 ((nd 8 _).imp fun h e => h (by omega)), List.pairwise_map.2 ((nd 6 _).imp fun h e => h (by omega)), fun a ha b hb e => ?_⟩
  obtain ⟨x, _, rfl⟩ := List.mem_map.1 ha
  obtain ⟨y, _, rfl⟩ := List.mem_map.1 hb
  omega
theorem FOk.exp_perm (O : FOk c g X) {u : Nat} (hu : u < 6) : ((grOf X.S u).q.L.map (·.id)).Perm (expL X u) := by
  have hx := O.at_ hu
  refine (List.perm_ext_iff_of_nodup (O.good.inv.qok u _ hx).ids (expL_nodup X u)).2 fun k => ?_
  unfold expL
  rw [List.mem_append, List.mem_map, List.mem_map, List.mem_map]
  constructor
  · rintro ⟨e, he, rfl⟩
    rcases O.good.inv.ids u _ hx e he with ⟨t, _, h⟩ | ⟨i, y, h1, h2, h3, h4, h5⟩
    · obtain ⟨n, hn, k1, k2⟩ := O.ids u _ hx e he (by omega)
      refine .inl ⟨n, List.mem_filter.2 ⟨List.mem_range.2 hn, ?_⟩, k1.symm⟩
      have : X.here n = true := (O.here n hn _ (by rw [k2]; exact hx)).2 ⟨e, he, k1⟩
      rw [this, k2]
      simp
    · have hi := O.lt6 h3
      refine .inr ⟨i, List.mem_filter.2 ⟨List.mem_range.2 hi, ?_⟩, h1.symm⟩
      have hp : u = parN i := by
        have := O.up hi h2
        rw [O.get_gr h3, h4] at this
        exact Int.ofNat.inj this
      rw [O.get_gr h3, h5, ← hp]
      simp [h2]
  · rintro (⟨n, hn, rfl⟩ | ⟨i, hi, rfl⟩)
    · obtain ⟨h1, h2⟩ := List.mem_filter.1 hn
      rw [Bool.and_eq_true, beq_iff_eq] at h2
      obtain ⟨e, he, hid⟩ := (O.here n (List.mem_range.1 h1) _ (by rw [h2.2]; exact hx)).1 h2.1
      exact ⟨e, he, hid⟩
    · obtain ⟨h1, h2⟩ := List.mem_filter.1 hi
      rw [Bool.and_eq_true, Bool.and_eq_true, beq_iff_eq, bne_iff_ne] at h2
      obtain ⟨k1, k2, k3⟩ := h2
      have hi6 := List.mem_range.1 h1
      have hy := O.at_ hi6
      obtain ⟨e, he, hid⟩ := O.good.inv.on i _ u _ k2 hy (by rw [O.up hi6 k2, k3]) hx k1
      exact ⟨e, he, hid⟩
theorem FOk.exp_len (O : FOk c g X) {u : Nat} (hu : u < 6) : (grOf X.S u).q.L.length = (expL X u).length := by
  have := (O.exp_perm hu).length_eq
  rw [List.length_map] at this
  exact this
theorem expL_len (X : FSt) (u : Nat) : (expL X u).length = ((List.range 8).map fun n => (X.here n && homeN n == u).toNat).sum + ((List.range 6).map fun i => ((grOf X.S i).on && (i != 0 && parN i == u)).toNat).sum := by
  unfold expL
  rw [List.length_append, List.length_map, List.length_map, filter_sum, filter_sum]
theorem exp_0 (X : FSt) : (expL X 0).length = hN X 0 + hN X 7 + oN X 1 + oN X 4 := by
  rw [expL_len]
  simp [List.range, List.range.loop, homeN, parN, hN, oN]
  omega
theorem exp_1 (X : FSt) : (expL X 1).length = hN X 1 + oN X 2 + oN X 3 := by
  rw [expL_len]
  simp [List.range, List.range.loop, homeN, parN, hN, oN]
  omega
theorem exp_2 (X : FSt) : (expL X 2).length = hN X 2 := by
  rw [expL_len]
  simp [List.range, List.range.loop, homeN, parN, hN]
theorem exp_3 (X : FSt) : (expL X 3).length = hN X 3 + oN X 5 := by
  rw [expL_len]
  simp [List.range, List.range.loop, homeN, parN, hN, oN]
theorem exp_4 (X : FSt) : (expL X 4).length = hN X 6 := by
  rw [expL_len]
  simp [List.range, List.range.loop, homeN, parN, hN]
theorem exp_5 (X : FSt) : (expL X 5).length = hN X 4 + hN X 5 := by
  rw [expL_len]
  simp [List.range, List.range.loop, homeN, parN, hN]
/-- in the queues of the first groups, but for the groups themselves -/
def manyF (X : FSt) : Nat → Int
  | 0 => 0
  | u + 1 => manyF X u + ((grOf X.S u).q.L.length : Int) - (if u = 0 then 0 else (oN X u : Int))
def hereF (X : FSt) : Nat → Int
  | 0 => 0
  | n + 1 => hereF X n + (hN X n : Int)
theorem FOk.many (O : FOk c g X) : manyF X 6 = hereF X 8 := by
  have l0 := O.exp_len (u := 0) (by decide)
  have l1 := O.exp_len (u := 1) (by decide)
  have l2 := O.exp_len (u := 2) (by decide)
  have l3 := O.exp_len (u := 3) (by decide)
  have l4 := O.exp_len (u := 4) (by decide)
  have l5 := O.exp_len (u := 5) (by decide)
  rw [exp_0] at l0
  rw [exp_1] at l1
  rw [exp_2] at l2
  rw [exp_3] at l3
  rw [exp_4] at l4
  rw [exp_5] at l5
  simp only [manyF, hereF, l0, l1, l2, l3, l4, l5]
  simp
  omega
end

end Go.Proofs.Ytefekboacghnjaa

namespace Go.Proofs.Ytefekboacghnjaa
open Go.RowKit Go.Maps

section
variable {w0 w w' : World} {p h t k : Nat} {c g : Int} {X : FSt}
/-- the entities of a queue, as Queue tells them -/
def entsF (X : FSt) (u : Nat) : List En := (grOf X.S u).q.ents
theorem FOk.ents_len (O : FOk c g X) {u : Nat} (hu : u < 6) : (entsF X u).length = (grOf X.S u).q.L.length := (ents_perm (O.good.inv.qok u _ (O.at_ hu))).length_eq
theorem FOk.ents_load (O : FOk c g X) {u : Nat} (hu : u < 6) : loadL (entsF X u) = loadL (grOf X.S u).q.L := loadL_perm (ents_perm (O.good.inv.qok u _ (O.at_ hu)))
theorem FOk.ents_mem (O : FOk c g X) {u : Nat} (hu : u < 6) {j : Nat} (hj : j < (entsF X u).length) : (entsF X u).getD j En.nil ∈ (grOf X.S u).q.L := by
  rw [getD_at _ hj]
  exact (ents_perm (O.good.inv.qok u _ (O.at_ hu))).mem_iff.1 (List.getElem_mem hj)
theorem FRound.queue (a : FRound w0 w p h c g t k X) {u : Nat} (hu : u < 6) :
    Calls Try.prog 37 #[.pointer (some ⟨h, 0, none⟩), .int .i64 (u : Int)] w fun r w' => ∃ A cc, r = .returned (.slice A (entsF X u).length cc) ∧ Hid (RowE w' w'.heap.size A (entsF X u) ∧ (entsF X u).length ≤ 128 ∧ Below w.heap.size w w') := by
  refine (fq_queue a.at_ (a.ok.at_ hu)).mono fun r w' hp => ?_
  obtain ⟨v, hr, hO⟩ := hp
  obtain ⟨A, cc, rfl, hrow, hlen⟩ := own_ents hO.out.1
  have h1 := a.ok.ents_len hu
  have h2 := (a.ok.good.inv.qok u _ (a.ok.at_ hu)).len
  exact ⟨A, cc, hr, Lib.hid ⟨hrow, by omega, hO.out.2.1⟩⟩
theorem FRound.load (a : FRound w0 w p h c g t k X) {u : Nat} (hu : u < 6) :
    Calls Try.prog 44 #[.pointer (some ⟨h, 0, none⟩), .int .i64 (u : Int)] w fun e w' => e = .returned (.int .u64 (loadL (grOf X.S u).q.L : Nat)) ∧ w = w' := fq_load a.at_ (a.ok.at_ hu)
theorem FRound.on (a : FRound w0 w p h c g t k X) {u : Nat} (hu : u < 6) (h0 : u ≠ 0) :
    Calls Try.prog 45 #[.pointer (some ⟨h, 0, none⟩), .int .i64 (u : Int)] w fun e w' => e = .returned (.bool (grOf X.S u).on) ∧ w = w' := fq_on a.at_ h0 (a.ok.at_ hu)
theorem FRound.stopped (a : FRound w0 w p h c g t k X) {u : Nat} (hu : u < 6) (h0 : u ≠ 0) :
    Calls Try.prog 46 #[.pointer (some ⟨h, 0, none⟩), .int .i64 (u : Int)] w fun e w' => e = .returned (.bool (grOf X.S u).stopped) ∧ w = w' := fq_stopped a.at_ h0 (a.ok.at_ hu)
theorem FRound.min (a : FRound w0 w p h c g t k X) {u : Nat} (hu : u < 6) :
    Calls Try.prog 42 #[.pointer (some ⟨h, 0, none⟩), .int .i64 (u : Int)] w fun e w' => e = .returned (.int .i64 (grOf X.S u).q.mn) ∧ w = w' := fq_min a.at_ (a.ok.at_ hu)
/-- on, or not -/
theorem FOk.stands (O : FOk c g X) {u : Nat} (hu : u < 6) (h0 : u ≠ 0) : ((entsF X u).length = 0 ∧ (grOf X.S u).on = false) ∨ (0 < (entsF X u).length ∧ (grOf X.S u).stopped = true ∧ (grOf X.S u).on = false) ∨ (0 < (entsF X u).length ∧ (grOf X.S u).stopped = false ∧ (grOf X.S u).on = true) := by
  have hon := O.good.set u _ h0 (O.at_ hu)
  rw [O.ents_len hu]
  unfold shouldB at hon
  cases hL : (grOf X.S u).q.L with
  | nil =>
    rw [hL] at hon
    exact .inl ⟨rfl, by rw [hon]; simp⟩
  | cons a l =>
    rw [hL] at hon
    cases hs : (grOf X.S u).stopped with
    | true => exact .inr (.inl ⟨by simp, rfl, by rw [hon, hs]; rfl⟩)
    | false => exact .inr (.inr ⟨by simp, rfl, by rw [hon, hs]; rfl⟩)
/-- the loads of the first queues -/
def loadF (X : FSt) : Nat → Nat
  | 0 => 0
  | u + 1 => loadF X u + loadL (grOf X.S u).q.L
theorem FOk.load_le (O : FOk c g X) : ∀ u : Nat, u ≤ 6 → loadF X u ≤ 33554432 * u
  | 0, _ => Nat.le_refl _
  | u + 1, hu => by
    have h1 := O.load_le u (by omega)
    have h2 := (O.good.inv.qok u _ (O.at_ (i := u) (by omega))).load
    show loadF X u + _ ≤ _
    omega
theorem oN_le (X : FSt) (i : Nat) : oN X i ≤ 1 := by
  unfold oN
  cases (grOf X.S i).on <;> decide
theorem hN_le (X : FSt) (i : Nat) : hN X i ≤ 1 := by
  unfold hN
  cases X.here i <;> decide
theorem FOk.many_le (O : FOk c g X) : ∀ u : Nat, u ≤ 6 → -(u : Int) ≤ manyF X u ∧ manyF X u ≤ 128 * (u : Int)
  | 0, _ => ⟨by show (_ : Int) ≤ 0; omega, by show (0 : Int) ≤ _; omega⟩
  | u + 1, hu => by
    obtain ⟨h1, h2⟩ := O.many_le u (by omega)
    have h3 := (O.good.inv.qok u _ (O.at_ (i := u) (by omega))).len
    have h4 := oN_le X u
    show _ ≤ manyF X u + _ - (if u = 0 then 0 else _) ∧ manyF X u + _ - (if u = 0 then 0 else _) ≤ _
    split <;> omega
theorem here_le (X : FSt) : ∀ n : Nat, 0 ≤ hereF X n ∧ hereF X n ≤ (n : Int)
  | 0 => ⟨Int.le_refl _, Int.le_refl _⟩
  | n + 1 => by
    obtain ⟨h1, h2⟩ := here_le X n
    have h3 := hN_le X n
    show _ ≤ hereF X n + _ ∧ hereF X n + _ ≤ _
    omega
theorem load_take (l : List En) {j : Nat} (hj : j < l.length) : loadL (l.take (j + 1)) = loadL (l.take j) + (l.getD j En.nil).wt := by
  rw [List.take_succ_eq_append_getElem hj, loadL_append, getD_at l hj]
  simp [loadL]
theorem load_take_le (l : List En) (j : Nat) : loadL (l.take j) ≤ loadL l := by
  have : loadL (l.take j) + loadL (l.drop j) = loadL l := by rw [← loadL_append, List.take_append_drop]
  omega
end

end Go.Proofs.Ytefekboacghnjaa
