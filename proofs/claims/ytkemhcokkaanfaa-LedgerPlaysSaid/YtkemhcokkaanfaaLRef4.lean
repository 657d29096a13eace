/-
  doleref18: Forget.
-/
import Derived.Test.YtkemhcokkaanfaaLRef3
namespace Go.Proofs.Ytkemhcokkaanfaa
open Go.RowKit Go.Maps

/-- a row, its task forgotten -/
def forgetD (k : Int) (d : Deed18) : Deed18 := { d with gone := d.gone || d.task == k }

theorem cell_four_at {w : World} {q : Nat} (hq : q = w.heap.size) (a b c d : Value) (t : TypeId) : ∀ j u, [a, b, c, d][j]? = some u → (w.alloc (.cells #[a, b, c, d] t)).cell? ((⟨q, 0, none⟩ : Addr).add j) = some u := by
  subst hq
  exact cell_four_new w a b c d t
theorem rowsIn_box {w : World} {A : Option Addr} {n c : Nat} {xs : List Value} (h : RowsIn w w.heap.size A n c xs) {w' : World} (k : Below w.heap.size w w') : RowsIn w' w.heap.size A n c xs := h.below k

set_option maxRecDepth 100000 in
set_option maxHeartbeats 4000000 in
theorem rforget_any (A : Option Addr) (R : List Deed18) (c : Nat) (k : Int) (w : World) (hR : RowsIn w w.heap.size A R.length c (R.flatMap dcells)) (hn : R.length ≤ 900) :
    Calls Try.prog 54 #[bookV A R.length c, .int .i64 k] w fun e w' => ∃ A2 c2, e = .returned (bookV A2 R.length c2) ∧ RowsIn w' w'.heap.size A2 R.length c2 ((R.map (forgetD k)).flatMap dcells) ∧ Below w.heap.size w w' := by
  obtain ⟨i0, hi, iz0, iz1, iz2⟩ := info_parts infoR
  have HD := Lib.hid hR.deeds
  obtain ⟨n, hnR⟩ : ∃ n, n = R.length := ⟨_, rfl⟩
  rw [← hnR]
  rw [← hnR] at hn
  have HN := Lib.hid hnR
  have hX0 : Blk ((w.alloc (.cells #[.slice A n c] 81)).alloc (.cells #[.slice none 0 0] 81)) w.heap.size #[.slice A n c] 81 := (Blk.new w _ _).alloc _
  have hX1 : Blk ((w.alloc (.cells #[.slice A n c] 81)).alloc (.cells #[.slice none 0 0] 81)) (w.heap.size + 1) #[.slice none 0 0] 81 := by
    have := Blk.new (w.alloc (.cells #[.slice A n c] 81)) #[.slice none 0 0] 81
    rw [World.size_alloc] at this
    exact this
  have hB0 : Below w.heap.size w ((w.alloc (.cells #[.slice A n c] 81)).alloc (.cells #[.slice none 0 0] 81)) := ((Below.refl _ _).alloc (Nat.le_refl _) _).alloc (by simp) _
  have HX := Lib.hid (And.intro hX0 (And.intro hX1 hB0))
  clear hnR hR hX0 hX1 hB0
  go_enter Try.func54, Try.ntmps54
  go_wp2_with fail
  obtain ⟨W0, hW0⟩ : ∃ W0, W0 = (w.alloc (.cells #[.slice A n c] 81)).alloc (.cells #[.slice none 0 0] 81) := ⟨_, rfl⟩
  have HS0 : Hid (W0.heap.size = w.heap.size + 2) := Lib.hid (by rw [hW0]; simp)
  rw [← hW0] at HX ⊢
  clear hW0
  go_loopw [5, 6, 7] (fun v s6 _ wr => ∃ j : Nat, j ≤ n ∧ s6 = .int .i64 j ∧ wr.ownsRow (w.heap.size + 2) 171 4 v j (((R.take j).map (forgetD k)).flatMap dcells) ∧ Below W0.heap.size W0 wr) (fun _ s6 _ _ => n - (intOf s6).toNat)
  case atStart => exact ⟨0, by omega, rfl, World.ownsRow_nil _ _ _ _, Below.refl _ _⟩
  case round =>
    obtain ⟨j, hj, rfl, hown, hBj⟩ := hrel
    have Y0 := HX.out.1.below hBj HX.out.1.lt
    have Y1 := HX.out.2.1.below hBj HX.out.2.1.lt
    have hBw : Below w.heap.size w wr := HX.out.2.2.trans (hBj.mono HX.out.2.2.size)
    have hz0 := Y0.lt
    have hz1 := Y1.lt
    have x0 : wr.cell? ⟨w.heap.size, 0, none⟩ = some (.slice A n c) := Blk.cell Y0 0
    have x1 : wr.cell? ⟨w.heap.size + 1, 0, none⟩ = some (.slice none 0 0) := Blk.cell Y1 0
    have f1 : wr.frozen? ⟨w.heap.size + 1, 0, none⟩ = false := Blk.frozen Y1 0
    by_cases hlt : j < n
    · have hjR : j < R.length := by rw [← HN.out]; exact hlt
      rcases HD.out with h | ⟨b, off, rfl, hbB, hat⟩
      · rw [h] at hjR; simp at hjR
      obtain ⟨d0, d1, d2, d3⟩ := (hat j hjR).below hBw hbB
      have htk : R.take (j + 1) = R.take j ++ [R.getD j Deed18.none] := by
        have e : R.getD j Deed18.none = R[j] := by rw [List.getD_eq_getElem?_getD, List.getElem?_eq_getElem hjR]; rfl
        rw [e]; exact (List.take_append_getElem hjR).symm
      have HTK := Lib.hid htk
      have HB := Lib.hid (And.intro hBj hBw)
      have HO := Lib.hid hown
      have z1 : decide ((j : Int) < (n : Int)) = true := decide_eq_true (by omega)
      have z2 : decide (j < n) = true := decide_eq_true hlt
      have j0 : (0 : Int) ≤ (j : Int) := Int.natCast_nonneg _
      have j1 : (j : Int) < (n : Int) := by omega
      clear hat htk hjR Y0 Y1 hBw hBj hown
      generalize R.getD j Deed18.none = d at *
      obtain ⟨a', zs', cc, tk, ns, gn⟩ := d
      dsimp only at d0 d1 d2 d3
      generalize hzl : zs'.length = zl at *
      have HZL := Lib.hid hzl
      clear hzl
      cases gn
      · by_cases e : tk = k
        · have q1 : (tk == k) = true := by simp [e]
          have hfd : dcells (forgetD k ⟨a', zs', cc, tk, ns, false⟩) = [.slice a' zl cc, .int .i64 tk, .int .i64 ns, .bool true] := by rw [← HZL.out]; simp [dcells, forgetD, q1]
          have HFD := Lib.hid hfd
          clear hfd e
          go_wp2_with (at_builtin; refine wpList_append_own _ rfl _ _ 79 rfl (w.heap.size + 2) 171 i0 _ 4 48 Try.underlying79 hi iz0 iz1 iz2 rfl (by decide) _ _ _ rfl ((HO.out.alloc _).alloc _) ⟨wr.heap.size + 1, 0, none⟩ 1 1 [.slice a' zl cc, .int .i64 tk, .int .i64 ns, .bool true] rfl rfl (cell_four_at (by simp) _ _ _ _ _) (by simp [Value.oneCell']) (by unfold maxLen; omega) (by omega) (by simp; omega) ?_; intro v2 w7 hown2 hg2 _)
          have hB7 : Below W0.heap.size W0 w7 := ((HB.out.1.alloc HB.out.1.size _).alloc (by have := HB.out.1.size; simp; omega) _).grown hg2 (by have := HB.out.1.size; simp; omega) (fun b hb => by have := (HO.out.lt b hb).1; have := HX.out.2.2.size; have hs := HS0.out; omega)
          go_roundw
          case rel => exact ⟨j + 1, by omega, by go_num, by rw [HTK.out, List.map_append, List.flatMap_append]; simpa [HFD.out] using hown2, hB7⟩
          case measure => simp [intOf]; omega
        · have q1 : (tk == k) = false := by simp [e]
          have hfd : dcells (forgetD k ⟨a', zs', cc, tk, ns, false⟩) = [.slice a' zl cc, .int .i64 tk, .int .i64 ns, .bool false] := by rw [← HZL.out]; simp [dcells, forgetD, q1]
          have HFD := Lib.hid hfd
          clear hfd e
          go_wp2_with (at_builtin; refine wpList_append_own _ rfl _ _ 79 rfl (w.heap.size + 2) 171 i0 _ 4 48 Try.underlying79 hi iz0 iz1 iz2 rfl (by decide) _ _ _ rfl ((HO.out.alloc _).alloc _) ⟨wr.heap.size + 1, 0, none⟩ 1 1 [.slice a' zl cc, .int .i64 tk, .int .i64 ns, .bool false] rfl rfl (cell_four_at (by simp) _ _ _ _ _) (by simp [Value.oneCell']) (by unfold maxLen; omega) (by omega) (by simp; omega) ?_; intro v2 w7 hown2 hg2 _)
          have hB7 : Below W0.heap.size W0 w7 := ((HB.out.1.alloc HB.out.1.size _).alloc (by have := HB.out.1.size; simp; omega) _).grown hg2 (by have := HB.out.1.size; simp; omega) (fun b hb => by have := (HO.out.lt b hb).1; have := HX.out.2.2.size; have hs := HS0.out; omega)
          go_roundw
          case rel => exact ⟨j + 1, by omega, by go_num, by rw [HTK.out, List.map_append, List.flatMap_append]; simpa [HFD.out] using hown2, hB7⟩
          case measure => simp [intOf]; omega
      · have tok : True := trivial
        have hfd : dcells (forgetD k ⟨a', zs', cc, tk, ns, true⟩) = [.slice a' zl cc, .int .i64 tk, .int .i64 ns, .bool true] := by rw [← HZL.out]; simp [dcells, forgetD]
        have HFD := Lib.hid hfd
        clear hfd tok
        go_wp2_with (at_builtin; refine wpList_append_own _ rfl _ _ 79 rfl (w.heap.size + 2) 171 i0 _ 4 48 Try.underlying79 hi iz0 iz1 iz2 rfl (by decide) _ _ _ rfl ((HO.out.alloc _).alloc _) ⟨wr.heap.size + 1, 0, none⟩ 1 1 [.slice a' zl cc, .int .i64 tk, .int .i64 ns, .bool true] rfl rfl (cell_four_at (by simp) _ _ _ _ _) (by simp [Value.oneCell']) (by unfold maxLen; omega) (by omega) (by simp; omega) ?_; intro v2 w7 hown2 hg2 _)
        have hB7 : Below W0.heap.size W0 w7 := ((HB.out.1.alloc HB.out.1.size _).alloc (by have := HB.out.1.size; simp; omega) _).grown hg2 (by have := HB.out.1.size; simp; omega) (fun b hb => by have := (HO.out.lt b hb).1; have := HX.out.2.2.size; have hs := HS0.out; omega)
        go_roundw
        case rel => exact ⟨j + 1, by omega, by go_num, by rw [HTK.out, List.map_append, List.flatMap_append]; simpa [HFD.out] using hown2, hB7⟩
        case measure => simp [intOf]; omega
    · obtain rfl : j = n := by omega
      have z1 : decide ((j : Int) < (j : Int)) = false := decide_eq_false (by omega)
      have hall : (R.take j).map (forgetD k) = R.map (forgetD k) := by rw [HN.out, List.take_length]
      rw [hall] at hown
      obtain ⟨A2, c2, rfl, _⟩ := own_rowsIn hown
      obtain ⟨A3, c3, e3, hR2⟩ := own_rowsIn (ownsRow_setCell hown ⟨w.heap.size + 1, 0, none⟩ (by show w.heap.size + 1 < _; omega) (.slice A2 j c2))
      injection e3 with e3 _ e4
      subst e3
      subst e4
      have HR2 := Lib.hid hR2
      have HB := Lib.hid hBw
      clear hown hR2 hBw hBj Y0 Y1 hall
      go_wp2_with fail
      refine bodyPost_ret (v := bookV A2 j c2) (by simp [results, Try.results54, go_sem, x1]) rfl ⟨A2, c2, rfl, ?_, HB.out.setCell (by simp) _⟩
      exact HR2.out

end Go.Proofs.Ytkemhcokkaanfaa
