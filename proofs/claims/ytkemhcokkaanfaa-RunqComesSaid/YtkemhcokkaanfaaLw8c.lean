/-
  Rows of entities; doleref08.Same of a row and itself.
-/
import Derived.Test.YtkemhcokkaanfaaLw8
namespace Go.Proofs.Ytkemhcokkaanfaa
open Go.ChangeShapes Go.WideShapes Go.ChangeAt Go.RowKit Go.Deep Go.Maps

def En.nil : En := ⟨0, 0, 0, 0⟩
def EntAt (w : World) (b o : Nat) (e : En) : Prop :=
  w.cell? ⟨b, o, none⟩ = some (.int .i64 e.id) ∧ w.cell? ⟨b, o + 1, none⟩ = some (.int .u64 e.wt) ∧ w.cell? ⟨b, o + 2, none⟩ = some (.int .i64 e.v) ∧ w.cell? ⟨b, o + 3, none⟩ = some (.int .u64 e.rem)
def RowE (w : World) (B : Nat) (A : Option Addr) (es : List En) : Prop :=
  es = [] ∨ ∃ b off : Nat, A = some ⟨b, off, none⟩ ∧ b < B ∧ ∀ j, j < es.length → EntAt w b (off + j * 4) (es.getD j En.nil)
theorem EntAt.below {w w' : World} {B b o : Nat} {e : En} (h : EntAt w b o e) (k : Below B w w') (hb : b < B) : EntAt w' b o e :=
  ⟨(k.cell (p := ⟨b, o, none⟩) hb).trans h.1, (k.cell (p := ⟨b, o + 1, none⟩) hb).trans h.2.1, (k.cell (p := ⟨b, o + 2, none⟩) hb).trans h.2.2.1, (k.cell (p := ⟨b, o + 3, none⟩) hb).trans h.2.2.2⟩
theorem EntAt.of {w w' : World} {b o : Nat} {e : En} (h : EntAt w b o e) (k : w'.heap[b]? = w.heap[b]?) : EntAt w' b o e := by
  have key : ∀ i, w'.cell? ⟨b, i, none⟩ = w.cell? ⟨b, i, none⟩ := fun i => by unfold World.cell?; rw [k]
  exact ⟨(key _).trans h.1, (key _).trans h.2.1, (key _).trans h.2.2.1, (key _).trans h.2.2.2⟩
theorem RowE.below {w w' : World} {B : Nat} {A : Option Addr} {es : List En} (h : RowE w B A es) (k : Below B w w') : RowE w' B A es := by
  rcases h with h | ⟨b, off, e, hb, hc⟩
  · exact .inl h
  · exact .inr ⟨b, off, e, hb, fun j hj => (hc j hj).below k hb⟩
theorem RowE.mono {w : World} {B C : Nat} {A : Option Addr} {es : List En} (h : RowE w B A es) (k : B ≤ C) : RowE w C A es := by
  rcases h with h | ⟨b, off, e, hb, hc⟩
  · exact .inl h
  · exact .inr ⟨b, off, e, Nat.lt_of_lt_of_le hb k, hc⟩
theorem RowE.at_ {w : World} {B : Nat} {A : Option Addr} {es : List En} (h : RowE w B A es) (hp : 0 < es.length) : ∃ b off : Nat, A = some ⟨b, off, none⟩ ∧ b < B ∧ ∀ j, j < es.length → EntAt w b (off + j * 4) (es.getD j En.nil) := by
  rcases h with rfl | h
  · simp at hp
  · exact h
theorem getD_at (es : List En) {j : Nat} (hj : j < es.length) : es.getD j En.nil = es[j] := by
  rw [List.getD_eq_getElem?_getD, List.getElem?_eq_getElem hj]; rfl
theorem own_ents {w : World} {base : Nat} {v : Value} {es : List En} {e : TypeId} (h : w.ownsRow base e 4 v es.length (es.flatMap ecl)) : ∃ A c, v = .slice A es.length c ∧ RowE w w.heap.size A es ∧ es.length ≤ 9223372036854775807 := by
  rcases row_cells h with ⟨rfl, hz⟩ | ⟨g, c, rfl, _, hg, hl, hc⟩
  · exact ⟨none, 0, by rw [hz], .inl (List.eq_nil_of_length_eq_zero hz), by omega⟩
  · refine ⟨_, c, rfl, .inr ⟨g, 0, rfl, hg, fun j hj => ?_⟩, hl⟩
    have key : ∀ i, i < 4 → w.cell? ⟨g, 0 + j * 4 + i, none⟩ = (ecl (es.getD j En.nil))[i]? := fun i hi => by
      rw [Nat.zero_add, hc (j * 4 + i) (by omega), flat_at ecl 4 (fun _ => rfl) es j i hi, List.getElem?_eq_getElem hj, getD_at es hj]
      rfl
    exact ⟨key 0 (by omega), key 1 (by omega), key 2 (by omega), key 3 (by omega)⟩
section
variable {H : Type} {enc : TypeId × Value → H} {W : World} {v : Value} {d : DataW H} {p : List MemPlace} {b0 : Nat}
set_option maxRecDepth 100000 in
theorem open_ents (hv : Value.okWide Try.prog W .any b0 47 v) (h : DataW.Trod enc Try.prog W 0 (fun _ => true) true 47 v d p) :
    ∃ (A : Option Addr) (es : List En) (c : Nat), v = .slice A es.length c ∧ RowE W W.heap.size A es ∧ (∀ e ∈ es, e.num) ∧ es.length ≤ 9223372036854775807 := by
  obtain ⟨A, n, c, rfl, hn, hi⟩ := open_structs Try.underlying47 Try.underlying52 (by kernel_rfl) (by kernel_rfl) (by decide) hv h
  rcases hi with h0 | ⟨b, off, rfl, hb, hi⟩
  · exact ⟨A, [], c, by rw [h0]; rfl, .inl rfl, by simp, by simp⟩
  · have key : ∀ j, j < n → ∃ e : En, e.num ∧ EntAt W b (off + j * 4) e := fun j hj => by
      obtain ⟨v0, n0, y0, c0, t0⟩ := hi j hj 0 _ rfl
      obtain ⟨v1, n1, y1, c1, t1⟩ := hi j hj 1 _ rfl
      obtain ⟨v2, n2, y2, c2, t2⟩ := hi j hj 2 _ rfl
      obtain ⟨v3, n3, y3, c3, t3⟩ := hi j hj 3 _ rfl
      obtain ⟨k, rfl, bk⟩ := trod_i64 Try.underlying3 t0
      obtain ⟨wt, rfl, bw⟩ := trod_u64 Try.underlying22 t1
      obtain ⟨vv, rfl, bv⟩ := trod_i64 Try.underlying2 t2
      obtain ⟨rm, rfl, br⟩ := trod_u64 Try.underlying22 t3
      refine ⟨⟨k, wt, vv, rm⟩, ⟨bk.1, bk.2, bv.1, bv.2, bw, br⟩, c0, ?_, ?_, ?_⟩
      · rw [Nat.add_assoc]; exact c1
      · rw [Nat.add_assoc]; exact c2
      · rw [Nat.add_assoc]; exact c3
    obtain ⟨f, hf1, _⟩ := pick_fn En.nil key
    have hlen : ((List.range n).map f).length = n := by simp
    refine ⟨_, (List.range n).map f, c, by rw [hlen], .inr ⟨b, off, rfl, hb, fun j hj => ?_⟩, fun d hd => ?_, by rw [hlen]; exact hn⟩
    · rw [hlen] at hj
      have e : ((List.range n).map f).getD j En.nil = f j := by rw [List.getD_eq_getElem?_getD]; simp [hj]
      rw [e]
      exact (hf1 j hj).2
    · obtain ⟨j, hj, rfl⟩ := List.mem_map.1 hd
      exact (hf1 j (List.mem_range.1 hj)).1
end

set_option maxRecDepth 100000 in
set_option maxHeartbeats 8000000 in
theorem rsame_any (A A' : Option Addr) (es : List En) (c c' : Nat) (w : World) (hA : RowE w w.heap.size A es) (hA' : RowE w w.heap.size A' es) (hl : es.length ≤ 9223372036854775807) :
    Calls Try.prog 37 #[.slice A es.length c, .slice A' es.length c'] w fun r w' => r = .returned (.bool true) ∧ Below w.heap.size w w' := by
  have HA := Lib.hid hA
  have HA' := Lib.hid hA'
  obtain ⟨n, hn⟩ : ∃ n, n = es.length := ⟨_, rfl⟩
  rw [← hn] at hl ⊢
  have HN := Lib.hid hn
  clear hA hA' hn
  go_enter Try.func37, Try.ntmps37
  go_wp2_with fail
  go_loopw [5] (fun s5 wr => ∃ k : Nat, k ≤ n ∧ s5 = .int .i64 k ∧ Hid (Below w.heap.size w wr)) (fun s5 _ => n - (intOf s5).toNat)
  case atStart => exact ⟨0, by omega, rfl, Below.refl _ _⟩
  case round =>
    obtain ⟨k, hk, rfl, HB⟩ := hrel
    by_cases hlt : k < n
    · have hk1 : k < es.length := by rw [← HN.out]; exact hlt
      obtain ⟨b, off, rfl, hb, hc⟩ := HA.out.at_ (by omega)
      obtain ⟨b', off', rfl, hb', hc'⟩ := HA'.out.at_ (by omega)
      obtain ⟨x0, x1, x2, x3⟩ := (hc k hk1).below HB.out hb
      obtain ⟨y0, y1, y2, y3⟩ := (hc' k hk1).below HB.out hb'
      clear hc hc' hk1
      generalize es.getD k En.nil = e at *
      obtain ⟨ei, ew, ev, er⟩ := e
      dsimp only at x0 x1 x2 x3 y0 y1 y2 y3
      have z1 : decide ((k : Int) < (n : Int)) = true := decide_eq_true (by omega)
      have z2 : decide (k < n) = true := decide_eq_true hlt
      have j0 : (0 : Int) ≤ (k : Int) := Int.natCast_nonneg _
      have j1 : (k : Int) < (n : Int) := by omega
      go_wp2_with fail
      go_big_quiet (fail)
      go_wp2_with fail
      go_roundw
      case rel => exact ⟨k + 1, by omega, by go_num, below_drewN HB.out _⟩
      case measure => simp [intOf]; omega
    · obtain rfl : k = n := by omega
      have z1 : decide ((k : Int) < (k : Int)) = false := decide_eq_false (by omega)
      go_wp2_with fail
      go_ret
      exact ⟨rfl, HB.out⟩

end Go.Proofs.Ytkemhcokkaanfaa
