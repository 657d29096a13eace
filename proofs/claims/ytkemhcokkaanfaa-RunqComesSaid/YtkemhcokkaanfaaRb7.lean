/-
  rbtree.walk.
-/
import Derived.Test.YtkemhcokkaanfaaRb6
namespace Go.Proofs.Ytkemhcokkaanfaa
open Go.RowKit

theorem keys_len : ∀ t : Tr, t.keys.length = t.size
  | .nil => rfl
  | .node b l v i lev r => by rw [Tr.keys, List.length_append, List.length_cons, keys_len l, keys_len r]; simp [Tr.size]; omega
theorem own_not {w : World} {base : Nat} {e : TypeId} {size n : Nat} {v : Value} {xs : List Value} (h : w.ownsRow base e size v n xs) {x : Nat} (hx : x < base ∨ w.heap.size ≤ x) : x ∉ v.ownBlock.toList := by
  intro hm
  cases hv : v.ownBlock with
  | none => rw [hv] at hm; simp at hm
  | some g =>
    rw [hv] at hm
    simp at hm
    subst hm
    have := h.lt _ hv
    omega
theorem cell_two_new (w : World) (a b : Value) (t : TypeId) : ∀ j u, [a, b][j]? = some u → (w.alloc (.cells #[a, b] t)).cell? ((⟨w.heap.size, 0, none⟩ : Addr).add j) = some u := by
  intro j u hu
  have hj : j < 2 := (List.getElem?_eq_some_iff.1 hu).1
  have h := Blk.new w #[a, b] t
  rcases (show j = 0 ∨ j = 1 by omega) with rfl | rfl
  · simp at hu; subst hu; exact Blk.cell h 0
  · simp at hu; subst hu; exact Blk.cell h 1
theorem cell_two_at {w : World} {g : Nat} {a b : Value} (h0 : w.cell? ⟨g, 0, none⟩ = some a) (h1 : w.cell? ⟨g, 1, none⟩ = some b) : ∀ j u, [a, b][j]? = some u → w.cell? ((⟨g, 0, none⟩ : Addr).add j) = some u := by
  intro j u hu
  have hj : j < 2 := (List.getElem?_eq_some_iff.1 hu).1
  rcases (show j = 0 ∨ j = 1 by omega) with rfl | rfl
  · simp at hu; subst hu; exact h0
  · simp at hu; subst hu; exact h1



set_option maxRecDepth 100000 in
set_option maxHeartbeats 8000000 in
theorem walk_any (base : Nat) : ∀ (t : Tr) (w : World) (vv : Value) (n : Nat) (xs : List Value), IsTr 209 w t → (∀ b, b ∈ t.blocks → b < base) → base ≤ w.heap.size → w.ownsRow base 144 2 vv n xs → n + t.size ≤ 1000000 →
    Calls Try.prog 123 #[.pointer t.ptr, vv] w fun e w' => ∃ v', e = .returned v' ∧ Grew base w vv n xs t.keys w' v' := by
  intro t
  induction t with
  | nil =>
    intro w vv n xs _ _ _ ho _
    show Calls _ _ #[.pointer none, _] _ fun e w' => ∃ v', e = .returned v' ∧ Hid (Grew base w vv n xs [] w' v')
    have HO := Lib.hid (Grew.refl ho)
    clear ho
    go_enter Try.func123, Try.ntmps123
    go_wp2_with fail
    go_ret
    exact ⟨vv, rfl, HO⟩
  | node b l v i lev r ihl ihr =>
    intro w vv n xs hT hB hbase ho hn
    obtain ⟨i0, hi, iz0, iz1, iz2⟩ := info_parts infoK
    obtain ⟨hb, hl, hr⟩ := hT
    have hbb : b < base := hB b (by simp [Tr.blocks])
    have hlb : ∀ x, x ∈ l.blocks → x < base := fun x hx => hB x (by simp [Tr.blocks, hx])
    have hrb : ∀ x, x ∈ r.blocks → x < base := fun x hx => hB x (by simp [Tr.blocks, hx])
    have hsz : l.keys.length + r.keys.length + 1 + n ≤ 1000000 := by
      rw [keys_len, keys_len]
      have : (Tr.node b l v i lev r).size = l.size + r.size + 1 := rfl
      omega
    obtain ⟨c0, c1, c2, c3, c4, cf⟩ := hb.node
    obtain ⟨KO, hKO⟩ : ∃ KO : Obj, KO = .cells #[.int .i64 v, .int .i64 i] 144 := ⟨_, rfl⟩
    have NF : Hid (∀ W u ks, Grew base w vv n xs ks W u → NodeFacts W b v i lev l.ptr r.ptr) := Lib.hid fun W u ks G => (hb.turns G.turns (own_not ho (.inl hbb))).node
    have MCL := Lib.hid (show ∀ W, W = w.drew ∨ W = w.drew.alloc KO → Calls Try.prog 123 #[.pointer l.ptr, vv] W fun e w5 => ∃ v5, e = .returned v5 ∧ Hid (Grew base w vv n xs l.keys w5 v5) ∧ NodeFacts w5 b v i lev l.ptr r.ptr ∧ NodeFacts (w5.alloc KO) b v i lev l.ptr r.ptr ∧
        (W = w.drew.alloc KO → w5.cell? ⟨w.heap.size, 0, none⟩ = some (.int .i64 v) ∧ w5.cell? ⟨w.heap.size, 1, none⟩ = some (.int .i64 i)) from fun W hW => by
      have hWb : Below w.heap.size w W := by
        rcases hW with rfl | rfl
        · exact (Below.refl _ _).drew
        · exact (Below.refl _ _).drew.alloc (Nat.le_refl _) _
      have hoW : W.ownsRow base 144 2 vv n xs := by
        rcases hW with rfl | rfl
        · exact ho
        · exact World.ownsRow.alloc (w := w.drew) ho _
      refine (ihl W vv n xs (hl.below hWb) hlb (by have := hWb.size; omega) hoW (by rw [keys_len, keys_len] at hsz; omega)).mono ?_
      rintro e w5 ⟨v5, rfl, G⟩
      have G2 := G.from hWb
      refine ⟨v5, rfl, G2, NF.out _ _ _ G2, NF.out _ _ _ (G2.alloc KO), ?_⟩
      rintro rfl
      have hk : Blk (w.drew.alloc KO) w.heap.size #[.int .i64 v, .int .i64 i] 144 := by rw [hKO]; exact Blk.new w.drew _ _
      have hk5 := hk.turns G.turns (own_not ho (.inr (Nat.le_refl _)))
      exact ⟨Blk.cell hk5 0, Blk.cell hk5 1⟩)
    have MCR := Lib.hid (show ∀ W u, Grew base w vv n xs (l.keys ++ [(v, i)]) W u → Calls Try.prog 123 #[.pointer r.ptr, u] W fun e w5 => ∃ v5, e = .returned v5 ∧ Hid (Grew base w vv n xs (Tr.node b l v i lev r).keys w5 v5) from fun W u G => by
      refine (ihr W u _ _ (hr.turns G.turns (fun x hx => own_not ho (.inl (hrb x hx)))) hrb (Nat.le_trans hbase G.turns.size) G.own (by rw [keys_len, keys_len] at hsz; simp [keys_len]; omega)).mono ?_
      rintro e w5 ⟨v5, rfl, G5⟩
      have := G.trans G5
      rw [List.append_assoc] at this
      exact ⟨v5, rfl, this⟩)
    obtain ⟨a0, a1, a2, a3, a4, af⟩ := (hb.alloc KO).node
    rw [hKO] at MCL a0 a1 a2 a3 a4 af
    have hbz := hbase
    clear hKO hB ho ihl ihr hb hl hr hlb hrb hbb
    show Calls _ _ #[.pointer (some ⟨b, 0, none⟩), _] _ fun e w' => ∃ v', e = .returned v' ∧ Hid (Grew base w vv n xs (Tr.node b l v i lev r).keys w' v')
    go_enter Try.func123, Try.ntmps123
    go_wp2_with fail
    go_region_law (first
      | (refine step_append_where rfl (.tmp 17) (.tmp 22) 146 rfl base 144 i0 _ 2 16 Try.underlying146 hi iz0 iz1 iz2 rfl (by decide) v5 (n + l.keys.length) (xs ++ l.keys.flatMap kcells) rfl (G5.out.own.alloc _) ⟨w5.heap.size, 0, none⟩ 1 1 (kcells (v, i)) rfl rfl (cell_two_new _ _ _ _) (by simp [kcells, Value.oneCell']) (by unfold maxLen; omega) (by omega) (by have := G5.out.turns.size; simp; omega) ?_
         intro v7 w7 hown7 hg7 hm7
         have G7 := Lib.hid (G5.out.trans ((Grew.put hown7 hg7 hm7).from ((Below.refl _ _).alloc (Nat.le_refl _) _)))
         obtain ⟨z0, z1, z2, z3, z4, zf⟩ := NF.out _ _ _ G7.out
         clear hown7 hg7 hm7)
      | (refine step_append_where rfl (.tmp 17) (.tmp 22) 146 rfl base 144 i0 _ 2 16 Try.underlying146 hi iz0 iz1 iz2 rfl (by decide) v5 (n + l.keys.length) (xs ++ l.keys.flatMap kcells) rfl (G5.out.own) ⟨w.heap.size, 0, none⟩ 1 1 (kcells (v, i)) rfl rfl (cell_two_at hcc.1 hcc.2) (by simp [kcells, Value.oneCell']) (by unfold maxLen; omega) (by omega) (by have := G5.out.turns.size; omega) ?_
         intro v7 w7 hown7 hg7 hm7
         have G7 := Lib.hid (G5.out.trans (Grew.put hown7 hg7 hm7))
         obtain ⟨z0, z1, z2, z3, z4, zf⟩ := NF.out _ _ _ G7.out
         clear hown7 hg7 hm7)
      | (go_simp; go_at_call_of 123 (Value.pointer l.ptr); refine (MCL.out _ (by first | exact .inr rfl | exact .inl rfl)).mono ?_; rintro e w5 ⟨v5, rfl, G5, ⟨y0, y1, y2, y3, y4, yf⟩, ⟨x0, x1, x2, x3, x4, xf⟩, hcell⟩; first | (have hcc := hcell rfl; clear hcell) | skip)
      | (go_simp; go_at_call_of 123 (Value.pointer r.ptr); refine (MCR.out _ _ G7.out).mono ?_; rintro e w9 ⟨v9, rfl, G9⟩))
    all_goals
      go_wp2_with fail
      go_ret
      exact ⟨v9, rfl, G9⟩

end Go.Proofs.Ytkemhcokkaanfaa
