/-
  rbtree.Tree: New, Insert, Delete, Walk, Min.
-/
import Derived.Test.YtkemhcokkaanfaaRb7
namespace Go.Proofs.Ytkemhcokkaanfaa
open Go.RowKit

/-- block p is a tree of these keys, on the blocks S -/
structure TreeAt (w : World) (p : Nat) (S : List Nat) (ks : List (Int × Int)) (K : Int) : Prop where
  ex : ∃ (t : Tr) (m : Int), Blk w p #[.pointer t.ptr, .int .i64 m] 182 ∧ S = p :: t.blocks ∧ IsTr 209 w t ∧ t.blocks.Nodup ∧ t.keys = ks ∧ Lv K t
  up : Up ks
theorem node_size {w : World} : ∀ {t : Tr}, IsTr 209 w t → ∀ b, b ∈ t.blocks → ∃ cs, Blk w b cs 209 ∧ cs.size = 5
  | .nil, _, b, hb => by simp [Tr.blocks] at hb
  | .node b l v i lev r, h, x, hx => by
    simp only [Tr.blocks, List.mem_cons, List.mem_append] at hx
    rcases hx with rfl | hx | hx
    · exact ⟨_, h.1, rfl⟩
    · exact node_size h.2.1 x hx
    · exact node_size h.2.2 x hx
theorem not_node {w : World} {t : Tr} (h : IsTr 209 w t) {p : Nat} {cs : Array Value} {ty : TypeId} (hb : Blk w p cs ty) (hs : cs.size ≠ 5) : p ∉ t.blocks := fun hm => by
  obtain ⟨ds, hd, h5⟩ := node_size h p hm
  have := hb.symm.trans hd
  simp at this
  rw [this.1] at hs
  exact hs h5
theorem TreeAt.of {w w' : World} {p : Nat} {S : List Nat} {ks : List (Int × Int)} {K : Int} (h : TreeAt w p S ks K) (e : ∀ b, b ∈ S → w'.heap[b]? = w.heap[b]?) : TreeAt w' p S ks K := by
  obtain ⟨⟨t, m, h1, rfl, h3, h4, h5, h6⟩, hu⟩ := h
  exact ⟨⟨t, m, h1.of (e p (by simp)), rfl, h3.of (fun b hb => e b (by simp [hb])), h4, h5, h6⟩, hu⟩
theorem TreeAt.lt {w : World} {p : Nat} {S : List Nat} {ks : List (Int × Int)} {K : Int} (h : TreeAt w p S ks K) : ∀ b, b ∈ S → b < w.heap.size := by
  obtain ⟨⟨t, m, h1, rfl, h3, h4, h5, h6⟩, hu⟩ := h
  intro b hb
  rw [List.mem_cons] at hb
  rcases hb with rfl | hb
  · exact h1.lt
  · exact h3.lt b hb
theorem TreeAt.below {w w' : World} {p : Nat} {S : List Nat} {ks : List (Int × Int)} {K : Int} (h : TreeAt w p S ks K) (k : Below w.heap.size w w') : TreeAt w' p S ks K := h.of fun b hb => k.block b (h.lt b hb)
theorem TreeAt.mono {w : World} {p : Nat} {S : List Nat} {ks : List (Int × Int)} {K K' : Int} (h : TreeAt w p S ks K) (hK : K ≤ K') : TreeAt w p S ks K' := by
  obtain ⟨⟨t, m, h1, h2, h3, h4, h5, h6⟩, hu⟩ := h
  exact ⟨⟨t, m, h1, h2, h3, h4, h5, h6.mono hK⟩, hu⟩
/-- the blocks of a tree have two cells or five -/
theorem TreeAt.not {w : World} {p : Nat} {S : List Nat} {ks : List (Int × Int)} {K : Int} (h : TreeAt w p S ks K) {b : Nat} {cs : Array Value} {ty : TypeId} (hb : Blk w b cs ty) (h2 : cs.size ≠ 2) (h5 : cs.size ≠ 5) : b ∉ S := by
  obtain ⟨⟨t, m, a1, rfl, a3, _⟩, hu⟩ := h
  intro hm
  rw [List.mem_cons] at hm
  rcases hm with rfl | hm
  · have := hb.symm.trans a1
    simp at this
    rw [this.1] at h2
    exact h2 rfl
  · exact not_node a3 hb h5 hm
/-- what comes of a turn of the tree -/
structure TreeTurned (w : World) (S : List Nat) (p : Nat) (ks : List (Int × Int)) (K : Int) (w' : World) (S' : List Nat) : Prop where
  at_ : TreeAt w' p S' ks K
  turns : Turns S w w'
  sub : ∀ b, b ∈ S' → b ∈ S ∨ w.heap.size ≤ b

theorem tree_end {w w1 w5 : World} {p : Nat} {t t' : Tr} {m m' : Int} {ks : List (Int × Int)} {K : Int} (hp : Blk w p #[.pointer t.ptr, .int .i64 m] 182) (ht : IsTr 209 w t) (hb : Below w.heap.size w w1)
    (hM : Mid 209 w1 t.blocks ks K w5 t') (hu : Up ks) :
    Blk w5 p #[.pointer t.ptr, .int .i64 m] 182 ∧ TreeTurned w (p :: t.blocks) p ks K (w5.setCell ⟨p, 0, none⟩ (.pointer t'.ptr)) (p :: t'.blocks) ∧ TreeTurned w (p :: t.blocks) p ks K ((w5.setCell ⟨p, 0, none⟩ (.pointer t'.ptr)).setCell ⟨p, 1, none⟩ (.int .i64 m')) (p :: t'.blocks) := by
  have hn : p ∉ t.blocks := not_node ht hp (by simp)
  have hp1 := hp.below hb hp.lt
  have hp5 := hp1.turns hM.turns hn
  have hn5 : p ∉ t'.blocks := not_node hM.tr hp5 (by simp)
  have s1 : Blk (w5.setCell ⟨p, 0, none⟩ (.pointer t'.ptr)) p #[.pointer t'.ptr, .int .i64 m] 182 := Blk.set hp5 0 (.pointer t'.ptr)
  have s2 : Blk ((w5.setCell ⟨p, 0, none⟩ (.pointer t'.ptr)).setCell ⟨p, 1, none⟩ (.int .i64 m')) p #[.pointer t'.ptr, .int .i64 m'] 182 := Blk.set s1 1 (.int .i64 m')
  have T0 : Turns (p :: t.blocks) w w5 := (Turns.of_below hb).trans ((hM.turns.mono (fun x hx => by simp [hx])) |> fun T => (Turns.refl _ _).then T (fun x hx _ => hx))
  have sub : ∀ b, b ∈ p :: t'.blocks → b ∈ p :: t.blocks ∨ w.heap.size ≤ b := fun b hb2 => by
    rw [List.mem_cons] at hb2
    rcases hb2 with rfl | hb2
    · exact .inl (by simp)
    · rcases hM.sub b hb2 with e | e
      · exact .inl (by simp [e])
      · exact .inr (Nat.le_trans hb.size e)
  refine ⟨hp5, ⟨⟨⟨t', m, s1, rfl, hM.tr.setCell _ hn5, hM.nodup, hM.keys, hM.lv⟩, hu⟩, T0.setCell (.inl (by simp)) _, sub⟩, ⟨⟨⟨t', m', s2, rfl, (hM.tr.setCell _ hn5).setCell _ hn5, hM.nodup, hM.keys, hM.lv⟩, hu⟩, (T0.setCell (.inl (by simp)) _).setCell (.inl (by simp)) _, sub⟩⟩

set_option maxRecDepth 100000 in
set_option maxHeartbeats 4000000 in
theorem insert_any (p : Nat) (S : List Nat) (ks : List (Int × Int)) (K k1 k2 : Int) (w : World) (h : TreeAt w p S ks K) (hK1 : 1 ≤ K) (hK : K + ks.length ≤ 9223372036854775000) :
    Calls Try.prog 86 #[.pointer (some ⟨p, 0, none⟩), keyV (k1, k2)] w fun e w' => ∃ S', e = .returned (.bool (decide ((k1, k2) ∉ ks))) ∧ TreeTurned w S p (insK (k1, k2) ks) (K + ks.length + 1) w' S' := by
  obtain ⟨⟨t, m, hp, rfl, ht, hn, rfl, hl⟩, hu⟩ := h
  have hlen := keys_len t
  obtain ⟨W1, hW1⟩ : ∃ W1, W1 = w.alloc (.cells #[.int .i64 k1, .int .i64 k2] 144) := ⟨_, rfl⟩
  have hb1 : Below w.heap.size w W1 := by rw [hW1]; exact (Below.refl _ _).alloc (Nat.le_refl _) _
  have hq : Blk W1 w.heap.size #[.int .i64 k1, .int .i64 k2] 144 := by rw [hW1]; exact Blk.new _ _ _
  have q0 : W1.cell? ⟨w.heap.size, 0, none⟩ = some (.int .i64 k1) := Blk.cell hq 0
  have q1 : W1.cell? ⟨w.heap.size, 1, none⟩ = some (.int .i64 k2) := Blk.cell hq 1
  have hp1 := hp.below hb1 hp.lt
  have p0 : W1.cell? ⟨p, 0, none⟩ = some (.pointer t.ptr) := Blk.cell hp1 0
  obtain ⟨m2, hm2⟩ : ∃ m2, m2 = IntKind.i64.wrap (m + 1) := ⟨_, rfl⟩
  have e1 : IntKind.i64.wrap (m + 1) = m2 := hm2.symm
  obtain ⟨lv, hlv⟩ : ∃ x, x = decide ((k1, k2) ∉ t.keys) := ⟨_, rfl⟩
  have MC := Lib.hid (show ∀ W, W = W1 ∨ W = W1.drew → Calls Try.prog 122 #[.pointer t.ptr, .agg #[.int .i64 k1, .int .i64 k2]] W fun e w5 => ∃ t' : Tr, e = .returned (.tuple #[.pointer t'.ptr, .bool lv]) ∧
      (w5.cell? ⟨p, 0, none⟩ = some (.pointer t.ptr) ∧ w5.cell? ⟨p, 1, none⟩ = some (.int .i64 m) ∧ w5.frozen? ⟨p, 0, none⟩ = false ∧ w5.frozen? ⟨p, 1, none⟩ = false) ∧
      Hid (TreeTurned w (p :: t.blocks) p (insK (k1, k2) t.keys) (K + t.keys.length + 1) (w5.setCell ⟨p, 0, none⟩ (.pointer t'.ptr)) (p :: t'.blocks) ∧ TreeTurned w (p :: t.blocks) p (insK (k1, k2) t.keys) (K + t.keys.length + 1) ((w5.setCell ⟨p, 0, none⟩ (.pointer t'.ptr)).setCell ⟨p, 1, none⟩ (.int .i64 m2)) (p :: t'.blocks)) from fun W hW => by
    have hbW : Below w.heap.size w W := by
      rcases hW with rfl | rfl
      · exact hb1
      · exact hb1.drew
    refine (with_any k1 k2 t W K (ht.below hbW) hn hl hK1 (by rw [← hlen]; omega) hu).mono ?_
    rintro e w5 ⟨t', rfl, hM⟩
    rw [← hlen] at hM
    have hend := tree_end hp ht hbW hM (insK_up _ _ hu) (m' := m2)
    exact ⟨t', by rw [hlv], ⟨Blk.cell hend.1 0, Blk.cell hend.1 1, Blk.frozen hend.1 0, Blk.frozen hend.1 1⟩, hend.2⟩)
  rw [← hlv]
  have HW1 := Lib.hid hW1
  clear hW1 hlv hm2 hp ht hn hl hu hq hp1 hb1
  go_enter Try.func86, Try.ntmps86
  go_wp2_with fail
  rw [← HW1.out]
  clear HW1
  cases lv
  all_goals
    go_region_with (go_at_call 122; refine (MC.out _ (by first | exact .inr rfl | exact .inl rfl)).mono ?_; rintro e w5 ⟨t5, rfl, ⟨y0, y1, y2, y3⟩, hT⟩)
  all_goals
    go_wp2_with fail
    go_ret
    first
    | exact ⟨_, rfl, hT.out.1⟩
    | exact ⟨_, rfl, hT.out.2⟩

set_option maxRecDepth 100000 in
set_option maxHeartbeats 4000000 in
theorem delete_any (p : Nat) (S : List Nat) (ks : List (Int × Int)) (K k1 k2 : Int) (w : World) (h : TreeAt w p S ks K) (hK1 : 1 ≤ K) (hK : K + 2 * ks.length ≤ 9223372036854775000) :
    Calls Try.prog 91 #[.pointer (some ⟨p, 0, none⟩), keyV (k1, k2)] w fun e w' => ∃ S', e = .returned (.bool (decide ((k1, k2) ∈ ks))) ∧ TreeTurned w S p (ks.filter (fun y => decide (y ≠ (k1, k2)))) (K + 2 * ks.length) w' S' := by
  obtain ⟨⟨t, m, hp, rfl, ht, hn, rfl, hl⟩, hu⟩ := h
  have hlen := keys_len t
  obtain ⟨W1, hW1⟩ : ∃ W1, W1 = w.alloc (.cells #[.int .i64 k1, .int .i64 k2] 144) := ⟨_, rfl⟩
  have hb1 : Below w.heap.size w W1 := by rw [hW1]; exact (Below.refl _ _).alloc (Nat.le_refl _) _
  have hq : Blk W1 w.heap.size #[.int .i64 k1, .int .i64 k2] 144 := by rw [hW1]; exact Blk.new _ _ _
  have q0 : W1.cell? ⟨w.heap.size, 0, none⟩ = some (.int .i64 k1) := Blk.cell hq 0
  have q1 : W1.cell? ⟨w.heap.size, 1, none⟩ = some (.int .i64 k2) := Blk.cell hq 1
  have hp1 := hp.below hb1 hp.lt
  have p0 : W1.cell? ⟨p, 0, none⟩ = some (.pointer t.ptr) := Blk.cell hp1 0
  obtain ⟨m2, hm2⟩ : ∃ m2, m2 = IntKind.i64.wrap (m - 1) := ⟨_, rfl⟩
  have e1 : IntKind.i64.wrap (m - 1) = m2 := hm2.symm
  obtain ⟨lv, hlv⟩ : ∃ x, x = decide ((k1, k2) ∈ t.keys) := ⟨_, rfl⟩
  have MC := Lib.hid (show ∀ W, W = W1 ∨ W = W1.drew → Calls Try.prog 125 #[.pointer t.ptr, .agg #[.int .i64 k1, .int .i64 k2]] W fun e w5 => ∃ t' : Tr, e = .returned (.tuple #[.pointer t'.ptr, .bool lv]) ∧
      (w5.cell? ⟨p, 0, none⟩ = some (.pointer t.ptr) ∧ w5.cell? ⟨p, 1, none⟩ = some (.int .i64 m) ∧ w5.frozen? ⟨p, 0, none⟩ = false ∧ w5.frozen? ⟨p, 1, none⟩ = false) ∧
      Hid (TreeTurned w (p :: t.blocks) p (t.keys.filter (fun y => decide (y ≠ (k1, k2)))) (K + 2 * t.keys.length) (w5.setCell ⟨p, 0, none⟩ (.pointer t'.ptr)) (p :: t'.blocks) ∧ TreeTurned w (p :: t.blocks) p (t.keys.filter (fun y => decide (y ≠ (k1, k2)))) (K + 2 * t.keys.length) ((w5.setCell ⟨p, 0, none⟩ (.pointer t'.ptr)).setCell ⟨p, 1, none⟩ (.int .i64 m2)) (p :: t'.blocks)) from fun W hW => by
    have hbW : Below w.heap.size w W := by
      rcases hW with rfl | rfl
      · exact hb1
      · exact hb1.drew
    refine (without_any t k1 k2 W K (ht.below hbW) hn hl hK1 (by rw [← hlen]; omega) hu).mono ?_
    rintro e w5 ⟨t', rfl, hM⟩
    rw [← hlen] at hM
    have hend := tree_end hp ht hbW hM (hu.filter _) (m' := m2)
    exact ⟨t', by rw [hlv], ⟨Blk.cell hend.1 0, Blk.cell hend.1 1, Blk.frozen hend.1 0, Blk.frozen hend.1 1⟩, hend.2⟩)
  rw [← hlv]
  have HW1 := Lib.hid hW1
  clear hW1 hlv hm2 hp ht hn hl hu hq hp1 hb1
  go_enter Try.func91, Try.ntmps91
  go_wp2_with fail
  rw [← HW1.out]
  clear HW1
  cases lv
  all_goals
    go_region_with (go_at_call 125; refine (MC.out _ (by first | exact .inr rfl | exact .inl rfl)).mono ?_; rintro e w5 ⟨t5, rfl, ⟨y0, y1, y2, y3⟩, hT⟩)
  all_goals
    go_wp2_with fail
    go_ret
    first
    | exact ⟨_, rfl, hT.out.1⟩
    | exact ⟨_, rfl, hT.out.2⟩

set_option maxRecDepth 100000 in
theorem tnewt_any (w : World) :
    Calls Try.prog 83 #[] w fun e w' => e = .returned (.pointer (some ⟨w.heap.size, 0, none⟩)) ∧ Hid (TreeAt w' w.heap.size [w.heap.size] [] 1) ∧ Below w.heap.size w w' := by
  go_enter Try.func83, Try.ntmps83
  go_wp2_with fail
  go_ret
  exact ⟨rfl, ⟨⟨.nil, 0, Blk.new _ _ _, rfl, trivial, by simp [Tr.blocks], rfl, trivial⟩, List.Pairwise.nil⟩, (Below.refl _ _).alloc (Nat.le_refl _) _⟩

set_option maxRecDepth 100000 in
theorem twalk_any (p : Nat) (S : List Nat) (ks : List (Int × Int)) (K : Int) (w : World) (h : TreeAt w p S ks K) (hK : ks.length ≤ 1000000) :
    Calls Try.prog 88 #[.pointer (some ⟨p, 0, none⟩)] w fun e w' => ∃ v', e = .returned v' ∧ Hid (w'.ownsRow w.heap.size 144 2 v' ks.length (ks.flatMap kcells) ∧ Below w.heap.size w w') := by
  obtain ⟨⟨t, m, hp, rfl, ht, hn, rfl, hl⟩, hu⟩ := h
  have p0 : w.cell? ⟨p, 0, none⟩ = some (.pointer t.ptr) := Blk.cell hp 0
  have MW := Lib.hid (walk_any w.heap.size t w (.slice none 0 0) 0 [] ht ht.lt (Nat.le_refl _) (World.ownsRow_nil _ _ _ _) (by rw [← keys_len]; omega))
  clear hp ht hn hl hu
  go_enter Try.func88, Try.ntmps88
  go_wp2_with fail
  refine MW.out.mono ?_
  rintro e w' ⟨v', rfl, G⟩
  have HG := Lib.hid G
  clear G
  go_wp2_with fail
  go_ret
  refine ⟨v', rfl, ?_⟩
  have G := HG.out
  refine ⟨by have := G.own; simpa using this, ⟨G.turns.os, G.turns.tape, G.turns.output, G.turns.size, fun i hi => G.turns.block i hi (by simp [Value.ownBlock])⟩⟩

end Go.Proofs.Ytkemhcokkaanfaa
