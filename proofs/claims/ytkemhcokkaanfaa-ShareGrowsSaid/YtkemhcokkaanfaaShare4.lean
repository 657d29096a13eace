/-
  share.Split; doleref11.Same.
-/
import Derived.Test.YtkemhcokkaanfaaShare3
namespace Go.Proofs.Ytkemhcokkaanfaa
open Go.RowKit

theorem ownsRow_base {w : World} {b b' : Nat} {e : TypeId} {size n : Nat} {v : Value} {xs : List Value} (h : w.ownsRow b e size v n xs) (hb : b' ≤ b) : w.ownsRow b' e size v n xs := by
  obtain ⟨h1, h2⟩ := h
  refine ⟨h1, ?_⟩
  rcases h2 with h2 | ⟨g, cap, cur, hv, hg, r⟩
  · exact .inl h2
  · exact .inr ⟨g, cap, cur, hv, Nat.le_trans hb hg, r⟩

/-- A row of the call's own, as a slice of words. -/
theorem own_words {w : World} {base : Nat} {v : Value} {xs : List Nat} (h : w.ownsRow base 22 1 v xs.length (xs.map wv)) : ∃ A c, v = .slice A xs.length c ∧ U64s w w.heap.size A xs := by
  have hc := fun g hg => h.cells (g := g) hg
  rcases h.2 with ⟨rfl, h0⟩ | ⟨g, cap, cur, rfl, _, hh, _⟩
  · exact ⟨none, 0, by rw [h0], .inl (List.eq_nil_of_length_eq_zero h0)⟩
  · refine ⟨_, _, rfl, .inr ⟨g, 0, rfl, ?_, fun j hj => ?_⟩⟩
    · exact (Array.getElem?_eq_some_iff.1 hh).1
    · have := hc g rfl j (wv (xs.getD j 0)) (by simp [List.getD, List.getElem?_eq_getElem hj])
      have e : (⟨g, 0, none⟩ : Addr).add j = ⟨g, 0 + j, none⟩ := by
        rcases Nat.eq_zero_or_pos j with rfl | hj0
        · simp [Addr.add]
        · simp [Addr.add]; omega
      rw [e] at this
      exact this

def splitN (s : Nat) (xs : List Nat) : List Nat := xs.map fun x => wgtN s x (sat xs.sum)
theorem told_all (s : Nat) (xs : List Nat) : toldN s (sat xs.sum) xs xs.length = splitN s xs := by unfold toldN splitN; rw [List.take_length]
theorem split_len (s : Nat) (xs : List Nat) : (splitN s xs).length = xs.length := by unfold splitN; simp
theorem split_words (s : Nat) (xs : List Nat) : Words (splitN s xs) := by
  intro j hj
  have h2 : j < xs.length := by rw [← split_len s xs]; exact hj
  have := (wgtN_le s (xs[j]) (sat xs.sum)).2
  unfold splitN
  simp [List.getD, List.getElem?_eq_getElem h2]
  omega

set_option maxRecDepth 100000 in
set_option maxHeartbeats 1000000 in
theorem split_any (w : World) (A : Option Addr) (xs : List Nat) (c s : Nat) (hA : U64s w w.heap.size A xs) (hx : Words xs) (hn : xs.length ≤ 100000) (hs : s < 18446744073709551616) :
    Calls Try.prog 22 #[.int .u64 s, .slice A xs.length c] w fun e w' =>
      ∃ v, e = .returned v ∧ w'.ownsRow w.heap.size 22 1 v (splitN s xs).length ((splitN s xs).map wv) ∧ Below w.heap.size w w' := by
  rw [split_len, ← told_all]
  have M1 := Lib.hid fun W (h : U64s W W.heap.size A xs) => ssum_any W W.heap.size A xs c h hx hn
  have ha := sat_lt xs.sum
  generalize sat xs.sum = a at *
  have M2 := Lib.hid fun W P Q h1 h2 h3 h4 h5 => each_any W A xs c P Q s a h1 hx hn hs ha h2 h3 h4 h5
  go_enter Try.func22, Try.ntmps22
  go_wp2_with fail
  refine (M1.out _ ((hA.keep (((Below.refl _ _).alloc (Nat.le_refl _) _))).more (by simp))).mono ?_
  rintro e w1 ⟨rfl, rfl⟩
  go_wp2_with fail
  have hA2 : U64s ((w.alloc (.cells #[.int .u64 s] 22)).alloc (.cells #[.int .u64 a] 22)) ((w.alloc (.cells #[.int .u64 s] 22)).alloc (.cells #[.int .u64 a] 22)).heap.size A xs :=
    (hA.keep (((Below.refl _ _).alloc (Nat.le_refl _) _).alloc (by simp) _)).more (by simp; omega)
  refine (M2.out _ _ _ hA2 ?_ ?_ ?_ ?_).mono ?_
  · simp; omega
  · simp
  · simp [go_sem]
  · simp [go_sem]
  rintro e w2 ⟨v, rfl, hown, hb2⟩
  go_wp2_with fail
  go_ret
  exact ⟨v, rfl, ownsRow_base hown (by simp; omega), (((Below.refl _ _).alloc (Nat.le_refl _) _).alloc (by simp) _).trans (hb2.mono (by simp; omega))⟩

end Go.Proofs.Ytkemhcokkaanfaa
