/-
  Trees of keys: what stays when a part of one is put in another one's place. Plain Lean, and skew and split in that form.
-/
import Derived.Test.YtkemhcokkaanfaaRb
namespace Go.Proofs.Ytkemhcokkaanfaa
open Go.RowKit

/-- all levels are from 1 to K -/
def Lv (K : Int) : Tr → Prop
  | .nil => True
  | .node _ l _ _ lev r => 1 ≤ lev ∧ lev ≤ K ∧ Lv K l ∧ Lv K r
theorem Lv.mono {K K' : Int} (h : K ≤ K') : ∀ {t : Tr}, Lv K t → Lv K' t
  | .nil, _ => trivial
  | .node _ _ _ _ _ _, ⟨h1, h2, h3, h4⟩ => ⟨h1, by omega, Lv.mono h h3, Lv.mono h h4⟩
theorem Lv.lev {K : Int} : ∀ {t : Tr}, Lv K t → 0 ≤ t.lev ∧ (t = .nil ∨ 1 ≤ t.lev ∧ t.lev ≤ K)
  | .nil, _ => ⟨Int.le_refl _, .inl rfl⟩
  | .node _ _ _ _ lev _, ⟨h1, h2, _, _⟩ => ⟨by show 0 ≤ lev; omega, .inr ⟨h1, h2⟩⟩
theorem Lv.rt {K : Int} : ∀ {t : Tr}, Lv K t → Lv K t.rt
  | .nil, _ => trivial
  | .node _ _ _ _ _ _, h => h.2.2.2
theorem Lv.skew {K : Int} : ∀ {t : Tr}, Lv K t → Lv K (skewT t)
  | .nil, _ => trivial
  | .node b .nil v i lev r, h => h
  | .node b (.node bl ll vl il levl rl) v i lev r, h => by
    by_cases e : levl = lev
    · rw [skew_yes e]
      exact ⟨h.2.2.1.1, h.2.2.1.2.1, h.2.2.1.2.2.1, h.1, h.2.1, h.2.2.1.2.2.2, h.2.2.2⟩
    · rw [skew_no e]; exact h
theorem Lv.split {K : Int} : ∀ {t : Tr}, Lv K t → Lv (K + 1) (splitT t)
  | .nil, _ => trivial
  | .node b l v i lev .nil, h => h.mono (by omega)
  | .node b l v i lev (.node br lr vr ir levr .nil), h => h.mono (by omega)
  | .node b l v i lev (.node br lr vr ir levr (.node b2 l2 v2 i2 lev2 r2)), h => by
    by_cases e : lev2 = lev
    · rw [split_yes e]
      have h' := h.mono (K' := K + 1) (by omega)
      obtain ⟨a1, a2, a3, b1, b2, b3, b4⟩ := h'
      exact ⟨by omega, by have := h.2.2.2.2.1; omega, ⟨a1, a2, a3, b3⟩, b4⟩
    · rw [split_no e]; exact h.mono (by omega)

/-- what has come of blocks S of a world w0: a tree with these keys -/
structure Mid (T : TypeId) (w0 : World) (S : List Nat) (ks : List (Int × Int)) (K : Int) (w : World) (t : Tr) : Prop where
  tr : IsTr T w t
  keys : t.keys = ks
  nodup : t.blocks.Nodup
  sub : ∀ b, b ∈ t.blocks → b ∈ S ∨ w0.heap.size ≤ b
  lv : Lv K t
  turns : Turns S w0 w

section
variable {T : TypeId} {w0 w w' : World} {S : List Nat} {ks : List (Int × Int)} {K K' : Int} {t t' : Tr}
theorem Mid.start (h : IsTr T w t) (hn : t.blocks.Nodup) (hl : Lv K t) : Mid T w t.blocks t.keys K w t := ⟨h, rfl, hn, fun _ h => .inl h, hl, Turns.refl _ _⟩
theorem Mid.then {ks' : List (Int × Int)} (h : Mid T w0 S ks K w t) (k : Mid T w t.blocks ks' K' w' t') : Mid T w0 S ks' K' w' t' := by
  refine ⟨k.tr, k.keys, k.nodup, fun b hb => ?_, k.lv, h.turns.then k.turns fun x hx hlt => ?_⟩
  · rcases k.sub b hb with h1 | h1
    · exact h.sub b h1
    · exact .inr (Nat.le_trans h.turns.size h1)
  · rcases h.sub x hx with h1 | h1
    · exact h1
    · omega
theorem Mid.below (h : Mid T w0 S ks K w t) (hb : Below w.heap.size w w') : Mid T w0 S ks K w' t := ⟨h.tr.below hb, h.keys, h.nodup, h.sub, h.lv, h.turns.below hb h.turns.size⟩
theorem Mid.drewN (h : Mid T w0 S ks K w t) (n : Nat) : Mid T w0 S ks K (w.drewN n) t := ⟨h.tr.drewN n, h.keys, h.nodup, h.sub, h.lv, h.turns.drewN n⟩
theorem Mid.mono (h : Mid T w0 S ks K w t) (hK : K ≤ K') : Mid T w0 S ks K' w t := ⟨h.tr, h.keys, h.nodup, h.sub, h.lv.mono hK, h.turns⟩
theorem Mid.node (h : Mid T w0 S ks K w t) (hk : ks ≠ []) : ∃ b l v i lev r, t = .node b l v i lev r := by
  cases t with
  | nil => exact absurd h.keys.symm hk
  | node b l v i lev r => exact ⟨b, l, v, i, lev, r, rfl⟩

theorem nodup_parts {b : Nat} {l r : Tr} {v i lev : Int} (h : (Tr.node b l v i lev r).blocks.Nodup) : b ∉ l.blocks ∧ b ∉ r.blocks ∧ l.blocks.Nodup ∧ r.blocks.Nodup ∧ ∀ x, x ∈ l.blocks → x ∉ r.blocks := by
  simp only [Tr.blocks, List.nodup_cons, List.nodup_append, List.mem_append] at h
  exact ⟨fun k => h.1 (.inl k), fun k => h.1 (.inr k), h.2.1, h.2.2.1, fun x h1 h2 => h.2.2.2 x h1 x h2 rfl⟩
theorem nodup_make {b : Nat} {l r : Tr} {v i lev : Int} (h1 : b ∉ l.blocks) (h2 : b ∉ r.blocks) (h3 : l.blocks.Nodup) (h4 : r.blocks.Nodup) (h5 : ∀ x, x ∈ l.blocks → x ∉ r.blocks) : (Tr.node b l v i lev r).blocks.Nodup := by
  simp only [Tr.blocks, List.nodup_cons, List.nodup_append, List.mem_append]
  refine ⟨fun h => h.elim h1 h2, h3, h4, fun x hx y hy e => ?_⟩
  subst e
  exact h5 x hx hy

variable {b : Nat} {l r l' r' : Tr} {v i lev : Int}
/-- the left one is put anew -/
theorem Mid.setLeft {kl : List (Int × Int)} (h : Mid T w0 S ks K w (.node b l v i lev r)) (k : Mid T w l.blocks kl K' w' l') (hK : K ≤ K') :
    Mid T w0 S (kl ++ (v, i) :: r.keys) K' (w'.setCell ⟨b, 3, none⟩ (.pointer l'.ptr)) (.node b l' v i lev r) := by
  obtain ⟨hb, hl, hr⟩ := h.tr
  obtain ⟨n1, n2, n3, n4, n5⟩ := nodup_parts h.nodup
  have hlt := hb.lt
  have m1 : b ∉ l'.blocks := fun hm => (k.sub b hm).elim n1 (fun e => by omega)
  have m5 : ∀ x, x ∈ l'.blocks → x ∉ r.blocks := fun x hx hr' => (k.sub x hx).elim (fun e => n5 x e hr') (fun e => by have := hr.lt x hr'; omega)
  have hb' : Blk w' b (nodeCells v i lev l.ptr r.ptr) T := hb.turns k.turns n1
  have hr2 : IsTr T w' r := hr.turns k.turns (fun x hx hl' => n5 x hl' hx)
  have hsub : ∀ x, x ∈ l.blocks → x < w0.heap.size → x ∈ S := fun x hx hlt2 => (h.sub x (by simp [Tr.blocks, hx])).elim id (fun e => by omega)
  have hbS : b ∈ S ∨ w0.heap.size ≤ b := h.sub b (by simp [Tr.blocks])
  refine ⟨⟨Blk.set hb' 3 _, k.tr.setCell _ m1, hr2.setCell _ n2⟩, by simp [Tr.keys, k.keys], nodup_make m1 n2 k.nodup n4 m5, fun x hx => ?_, ⟨h.lv.1, Int.le_trans h.lv.2.1 hK, k.lv, h.lv.2.2.2.mono hK⟩, ((h.turns.then k.turns hsub).setCell hbS _)⟩
  simp only [Tr.blocks, List.mem_cons, List.mem_append] at hx
  rcases hx with rfl | hx | hx
  · exact hbS
  · rcases k.sub x hx with e | e
    · exact h.sub x (by simp [Tr.blocks, e])
    · exact .inr (Nat.le_trans h.turns.size e)
  · exact h.sub x (by simp [Tr.blocks, hx])
theorem Mid.setRight {kr : List (Int × Int)} (h : Mid T w0 S ks K w (.node b l v i lev r)) (k : Mid T w r.blocks kr K' w' r') (hK : K ≤ K') :
    Mid T w0 S (l.keys ++ (v, i) :: kr) K' (w'.setCell ⟨b, 4, none⟩ (.pointer r'.ptr)) (.node b l v i lev r') := by
  obtain ⟨hb, hl, hr⟩ := h.tr
  obtain ⟨n1, n2, n3, n4, n5⟩ := nodup_parts h.nodup
  have hlt := hb.lt
  have m1 : b ∉ r'.blocks := fun hm => (k.sub b hm).elim n2 (fun e => by omega)
  have m5 : ∀ x, x ∈ l.blocks → x ∉ r'.blocks := fun x hx hr' => (k.sub x hr').elim (fun e => n5 x hx e) (fun e => by have := hl.lt x hx; omega)
  have hb' : Blk w' b (nodeCells v i lev l.ptr r.ptr) T := hb.turns k.turns n2
  have hl2 : IsTr T w' l := hl.turns k.turns (fun x hx hl' => n5 x hx hl')
  have hsub : ∀ x, x ∈ r.blocks → x < w0.heap.size → x ∈ S := fun x hx hlt2 => (h.sub x (by simp [Tr.blocks, hx])).elim id (fun e => by omega)
  have hbS : b ∈ S ∨ w0.heap.size ≤ b := h.sub b (by simp [Tr.blocks])
  refine ⟨⟨Blk.set hb' 4 _, hl2.setCell _ n1, k.tr.setCell _ m1⟩, by simp [Tr.keys, k.keys], nodup_make n1 m1 n3 k.nodup m5, fun x hx => ?_, ⟨h.lv.1, Int.le_trans h.lv.2.1 hK, h.lv.2.2.1.mono hK, k.lv⟩, ((h.turns.then k.turns hsub).setCell hbS _)⟩
  simp only [Tr.blocks, List.mem_cons, List.mem_append] at hx
  rcases hx with rfl | hx | hx
  · exact hbS
  · exact h.sub x (by simp [Tr.blocks, hx])
  · rcases k.sub x hx with e | e
    · exact h.sub x (by simp [Tr.blocks, e])
    · exact .inr (Nat.le_trans h.turns.size e)
/-- the node's own cells behind a turn of its left one, or its right one -/
theorem Mid.ownL {kl : List (Int × Int)} (h : Mid T w0 S ks K w (.node b l v i lev r)) (k : Mid T w l.blocks kl K' w' l') : Blk w' b (nodeCells v i lev l.ptr r.ptr) T := h.tr.1.turns k.turns (nodup_parts h.nodup).1
theorem Mid.ownR {kr : List (Int × Int)} (h : Mid T w0 S ks K w (.node b l v i lev r)) (k : Mid T w r.blocks kr K' w' r') : Blk w' b (nodeCells v i lev l.ptr r.ptr) T := h.tr.1.turns k.turns (nodup_parts h.nodup).2.1
theorem Mid.left (h : Mid T w0 S ks K w (.node b l v i lev r)) : Mid T w l.blocks l.keys K w l := Mid.start h.tr.2.1 (nodup_parts h.nodup).2.2.1 h.lv.2.2.1
theorem Mid.right (h : Mid T w0 S ks K w (.node b l v i lev r)) : Mid T w r.blocks r.keys K w r := Mid.start h.tr.2.2 (nodup_parts h.nodup).2.2.2.1 h.lv.2.2.2
end

theorem skew_mid {K : Int} (t : Tr) (w : World) (h : IsTr 209 w t) (hd : t.blocks.Nodup) (hl : Lv K t) :
    Calls Try.prog 149 #[.pointer t.ptr] w fun e w' => ∃ t', e = .returned (.pointer t'.ptr) ∧ Mid 209 w t.blocks t.keys K w' t' := by
  refine (skew_any t w h hd (fun hn => (hl.lev.2.resolve_left hn).1)).mono ?_
  rintro e w' ⟨rfl, hT, hU⟩
  exact ⟨_, rfl, hT, skew_keys t, (skew_blocks t).nodup_iff.2 hd, fun b hb => .inl ((skew_blocks t).mem_iff.1 hb), hl.skew, hU⟩
theorem split_mid {K : Int} (t : Tr) (w : World) (h : IsTr 209 w t) (hd : t.blocks.Nodup) (hl : Lv K t) (hK : K ≤ 9223372036854775806) :
    Calls Try.prog 148 #[.pointer t.ptr] w fun e w' => ∃ t', e = .returned (.pointer t'.ptr) ∧ Mid 209 w t.blocks t.keys (K + 1) w' t' := by
  have hr := hl.rt.lev
  refine (split_any t w h hd (fun hn => (hl.lev.2.resolve_left hn).1) hr.1 (by
    rcases hr.2 with e | e
    · rw [e]; show (0 : Int) ≤ _; omega
    · omega)).mono ?_
  rintro e w' ⟨rfl, hT, hU⟩
  exact ⟨_, rfl, hT, split_keys t, (split_blocks t).nodup_iff.2 hd, fun b hb => .inl ((split_blocks t).mem_iff.1 hb), hl.split, hU⟩

end Go.Proofs.Ytkemhcokkaanfaa
