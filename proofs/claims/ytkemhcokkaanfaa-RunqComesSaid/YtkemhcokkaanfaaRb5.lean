/-
  rbtree: the ends of a tree, and a key less.
-/
import Derived.Test.YtkemhcokkaanfaaRb4
import Derived.Deep.RegionHeld3
namespace Go.Proofs.Ytkemhcokkaanfaa
open Go.RowKit

/-! Parts of a tree. -/
def Tr.Sub (s : Tr) : Tr → Prop
  | .nil => s = .nil
  | .node b l v i lev r => s = .node b l v i lev r ∨ s.Sub l ∨ s.Sub r
def Tr.sizeAt (c : Nat) : Tr → Nat
  | .nil => 0
  | .node b l _ _ _ r => if b = c then l.size + r.size + 1 else l.sizeAt c + r.sizeAt c
theorem sizeAt_none (c : Nat) : ∀ t : Tr, c ∉ t.blocks → t.sizeAt c = 0
  | .nil, _ => rfl
  | .node b l v i lev r, h => by
    simp only [Tr.blocks, List.mem_cons, List.mem_append, not_or] at h
    simp only [Tr.sizeAt]
    rw [if_neg (Ne.symm h.1), sizeAt_none c l h.2.1, sizeAt_none c r h.2.2]
theorem Tr.Sub.mem {c : Nat} {l r : Tr} {v i lev : Int} : ∀ {t : Tr}, (Tr.node c l v i lev r).Sub t → c ∈ t.blocks
  | .nil, h => by simp [Tr.Sub] at h
  | .node b l' _ _ _ r', h => by
    simp only [Tr.blocks, List.mem_cons, List.mem_append]
    rcases h with h | h | h
    · injection h with h; exact .inl h
    · exact .inr (.inl h.mem)
    · exact .inr (.inr h.mem)
theorem Tr.Sub.size {c : Nat} {l r : Tr} {v i lev : Int} : ∀ {t : Tr}, (Tr.node c l v i lev r).Sub t → t.blocks.Nodup → t.sizeAt c = l.size + r.size + 1
  | .nil, h, _ => by simp [Tr.Sub] at h
  | .node b l' v' i' lev' r', h, hn => by
    obtain ⟨n1, n2, n3, n4, n5⟩ := nodup_parts hn
    simp only [Tr.sizeAt]
    rcases h with h | h | h
    · injection h with h1 h2 h3 h4 h5 h6
      subst h1 h2 h6
      rw [if_pos rfl]
    · rw [if_neg (fun e : b = c => n1 (by rw [e]; exact h.mem)), h.size n3, sizeAt_none c r' (n5 c h.mem), Nat.add_zero]
    · rw [if_neg (fun e : b = c => n2 (by rw [e]; exact h.mem)), h.size n4, sizeAt_none c l' (fun hm => n5 c hm h.mem), Nat.zero_add]
theorem Tr.Sub.tr {T : TypeId} {w : World} {s : Tr} : ∀ {t : Tr}, s.Sub t → IsTr T w t → IsTr T w s
  | .nil, h, _ => by rw [show s = .nil from h]; trivial
  | .node b l v i lev r, h, ht => by
    rcases h with rfl | h | h
    · exact ht
    · exact h.tr ht.2.1
    · exact h.tr ht.2.2
theorem Tr.Sub.refl : ∀ t : Tr, t.Sub t
  | .nil => rfl
  | .node _ _ _ _ _ _ => .inl rfl
theorem Tr.Sub.left {b : Nat} {l r : Tr} {v i lev : Int} : ∀ {t : Tr}, (Tr.node b l v i lev r).Sub t → l.Sub t
  | .nil, h => by simp [Tr.Sub] at h
  | .node _ _ _ _ _ _, h => by
    rcases h with h | h | h
    · injection h with h1 h2 h3 h4 h5 h6
      subst h2
      exact .inr (.inl (Tr.Sub.refl _))
    · exact .inr (.inl h.left)
    · exact .inr (.inr h.left)
theorem Tr.Sub.right {b : Nat} {l r : Tr} {v i lev : Int} : ∀ {t : Tr}, (Tr.node b l v i lev r).Sub t → r.Sub t
  | .nil, h => by simp [Tr.Sub] at h
  | .node _ _ _ _ _ _, h => by
    rcases h with h | h | h
    · injection h with h1 h2 h3 h4 h5 h6
      subst h6
      exact .inr (.inr (Tr.Sub.refl _))
    · exact .inr (.inl h.right)
    · exact .inr (.inr h.right)
/-- an end of a tree -/
def EndOf (o : Option (Int × Int)) (S : List Nat) (w : World) (e : Ending) (w' : World) : Prop :=
  ∃ b' v' i', e = .returned (.pointer (some ⟨b', 0, none⟩)) ∧ o = some (v', i') ∧ w.cell? ⟨b', 0, none⟩ = some (.int .i64 v') ∧ w.cell? ⟨b', 1, none⟩ = some (.int .i64 i') ∧ b' ∈ S ∧ w' = w
/-- how many stand from a pointer on -/
def ptrSize (t : Tr) : Value → Nat
  | .pointer (some a) => t.sizeAt a.block
  | _ => 0

theorem keys_ne {b : Nat} {l r : Tr} {v i lev : Int} : (Tr.node b l v i lev r).keys ≠ [] := by simp [Tr.keys]
theorem keys_head {l : List (Int × Int)} (x : Int × Int) (r : List (Int × Int)) (h : l ≠ []) : (l ++ x :: r).head? = l.head? := by
  cases l with
  | nil => exact absurd rfl h
  | cons y l => rfl
theorem keys_last {r : List (Int × Int)} (x : Int × Int) (l : List (Int × Int)) (h : r ≠ []) : (l ++ x :: r).getLast? = r.getLast? := by
  cases r with
  | nil => exact absurd rfl h
  | cons y r => simp [List.getLast?_append, List.getLast?_cons]

set_option maxRecDepth 100000 in
theorem first_any (b : Nat) (l r : Tr) (v i lev : Int) (w : World) (hT : IsTr 209 w (.node b l v i lev r)) (hn : (Tr.node b l v i lev r).blocks.Nodup) :
    Calls Try.prog 145 #[.pointer (some ⟨b, 0, none⟩)] w (EndOf (Tr.node b l v i lev r).keys.head? (Tr.node b l v i lev r).blocks w) := by
  obtain ⟨t0, ht0⟩ : ∃ t0, t0 = Tr.node b l v i lev r := ⟨_, rfl⟩
  rw [← ht0]
  rw [← ht0] at hT hn
  have HT := Lib.hid (And.intro hT (And.intro hn ht0))
  clear hT hn ht0
  go_enter Try.func145, Try.ntmps145
  go_wp2_with fail
  go_loop [0] (fun s0 => ∃ (c : Nat) (l' r' : Tr) (v' i' lev' : Int), s0 = .pointer (some ⟨c, 0, none⟩) ∧ Hid ((Tr.node c l' v' i' lev' r').Sub t0 ∧ (Tr.node c l' v' i' lev' r').keys.head? = t0.keys.head?)) (fun s0 => ptrSize t0 s0)
  case atStart => exact ⟨b, l, r, v, i, lev, rfl, by rw [HT.out.2.2]; exact ⟨Tr.Sub.refl _, rfl⟩⟩
  case round =>
    obtain ⟨c, l', r', v', i', lev', rfl, HS⟩ := hrel
    have hT := HS.out.1.tr HT.out.1
    obtain ⟨c0, c1, c2, c3, c4, cf⟩ := hT.1.node
    clear hT
    cases l' with
    | nil =>
      have cS : w.cell? ⟨c, 3, none⟩ = some (.pointer none) := c3
      clear c3
      have HC := Lib.hid (And.intro c0 c1)
      go_wp2_with fail
      go_ret
      refine ⟨c, v', i', rfl, ?_, HC.out.1, HC.out.2, HS.out.1.mem, rfl⟩
      rw [← HS.out.2]
      simp [Tr.keys]
    | node c2 l2 v2 i2 lev2 r2 =>
      have cS : w.cell? ⟨c, 3, none⟩ = some (.pointer (some ⟨c2, 0, none⟩)) := c3
      clear c3
      go_wp2_with fail
      go_round
      case rel => exact ⟨c2, l2, r2, v2, i2, lev2, rfl, HS.out.1.left, by rw [← HS.out.2]; exact (keys_head _ _ keys_ne).symm⟩
      case measure =>
        show t0.sizeAt c2 < t0.sizeAt c
        rw [HS.out.1.size HT.out.2.1, HS.out.1.left.size HT.out.2.1]
        simp [Tr.size]
        try omega

set_option maxRecDepth 100000 in
theorem last_any (b : Nat) (l r : Tr) (v i lev : Int) (w : World) (hT : IsTr 209 w (.node b l v i lev r)) (hn : (Tr.node b l v i lev r).blocks.Nodup) :
    Calls Try.prog 150 #[.pointer (some ⟨b, 0, none⟩)] w (EndOf (Tr.node b l v i lev r).keys.getLast? (Tr.node b l v i lev r).blocks w) := by
  obtain ⟨t0, ht0⟩ : ∃ t0, t0 = Tr.node b l v i lev r := ⟨_, rfl⟩
  rw [← ht0]
  rw [← ht0] at hT hn
  have HT := Lib.hid (And.intro hT (And.intro hn ht0))
  clear hT hn ht0
  go_enter Try.func150, Try.ntmps150
  go_wp2_with fail
  go_loop [0] (fun s0 => ∃ (c : Nat) (l' r' : Tr) (v' i' lev' : Int), s0 = .pointer (some ⟨c, 0, none⟩) ∧ Hid ((Tr.node c l' v' i' lev' r').Sub t0 ∧ (Tr.node c l' v' i' lev' r').keys.getLast? = t0.keys.getLast?)) (fun s0 => ptrSize t0 s0)
  case atStart => exact ⟨b, l, r, v, i, lev, rfl, by rw [HT.out.2.2]; exact ⟨Tr.Sub.refl _, rfl⟩⟩
  case round =>
    obtain ⟨c, l', r', v', i', lev', rfl, HS⟩ := hrel
    have hT := HS.out.1.tr HT.out.1
    obtain ⟨c0, c1, c2, c3, c4, cf⟩ := hT.1.node
    clear hT
    cases r' with
    | nil =>
      have cS : w.cell? ⟨c, 4, none⟩ = some (.pointer none) := c4
      clear c4
      have HC := Lib.hid (And.intro c0 c1)
      go_wp2_with fail
      go_ret
      refine ⟨c, v', i', rfl, ?_, HC.out.1, HC.out.2, HS.out.1.mem, rfl⟩
      rw [← HS.out.2]
      simp [Tr.keys]
    | node c2 l2 v2 i2 lev2 r2 =>
      have cS : w.cell? ⟨c, 4, none⟩ = some (.pointer (some ⟨c2, 0, none⟩)) := c4
      clear c4
      go_wp2_with fail
      go_round
      case rel => exact ⟨c2, l2, r2, v2, i2, lev2, rfl, HS.out.1.right, by rw [← HS.out.2]; exact (keys_last _ _ keys_ne).symm⟩
      case measure =>
        show t0.sizeAt c2 < t0.sizeAt c
        rw [HS.out.1.size HT.out.2.1, HS.out.1.right.size HT.out.2.1]
        simp [Tr.size]
        try omega
theorem filter_all {k : Int × Int} {l : List (Int × Int)} (h : ∀ y, y ∈ l → y ≠ k) : l.filter (fun y => decide (y ≠ k)) = l := List.filter_eq_self.2 fun y hy => decide_eq_true (h y hy)
theorem filter_left {k x : Int × Int} {l r : List (Int × Int)} (h : keyLt k x) (hr : ∀ y, y ∈ r → keyLt x y) : (l ++ x :: r).filter (fun y => decide (y ≠ k)) = l.filter (fun y => decide (y ≠ k)) ++ x :: r := by
  rw [List.filter_append, filter_all (l := x :: r)]
  intro y hy
  rw [List.mem_cons] at hy
  rcases hy with rfl | hy
  · exact (keyLt_ne h).symm
  · exact (keyLt_ne (keyLt_trans h (hr y hy))).symm
theorem filter_right {k x : Int × Int} {l r : List (Int × Int)} (h : keyLt x k) (hl : ∀ y, y ∈ l → keyLt y x) : (l ++ x :: r).filter (fun y => decide (y ≠ k)) = l ++ x :: r.filter (fun y => decide (y ≠ k)) := by
  rw [List.filter_append, filter_all (l := l) (fun y hy => keyLt_ne (keyLt_trans (hl y hy) h)), List.filter_cons, if_pos (by simpa using keyLt_ne h)]
theorem filter_same {x : Int × Int} {l r : List (Int × Int)} (hl : ∀ y, y ∈ l → keyLt y x) (hr : ∀ y, y ∈ r → keyLt x y) : (l ++ x :: r).filter (fun y => decide (y ≠ x)) = l ++ r := by
  rw [List.filter_append, filter_all (l := l) (fun y hy => keyLt_ne (hl y hy)), List.filter_cons, if_neg (by simp), filter_all (l := r) (fun y hy => (keyLt_ne (hr y hy)).symm)]
theorem filter_last {y : Int × Int} {l r : List (Int × Int)} (h : l.getLast? = some y) (hu : Up l) : l.filter (fun x => decide (x ≠ y)) ++ y :: r = l ++ r := by
  obtain ⟨m, rfl⟩ := List.getLast?_eq_some_iff.1 h
  rw [Up, List.pairwise_append] at hu
  rw [List.filter_append, filter_all (l := m) (fun z hz => keyLt_ne (hu.2.2 z hz y (by simp)))]
  simp
theorem filter_head {y : Int × Int} {l r : List (Int × Int)} (h : r.head? = some y) (hu : Up r) : l ++ y :: r.filter (fun x => decide (x ≠ y)) = l ++ r := by
  cases r with
  | nil => simp at h
  | cons z r =>
    simp at h
    subst h
    rw [Up, List.pairwise_cons] at hu
    rw [List.filter_cons, if_neg (by simp), filter_all (l := r) (fun x hx => (keyLt_ne (hu.1 x hx)).symm)]
theorem in_left {k : Int × Int} {b : Nat} {l r : Tr} {v i lev : Int} (h : keyLt k (v, i)) (hr : ∀ y, y ∈ r.keys → keyLt (v, i) y) : decide (k ∈ (Tr.node b l v i lev r).keys) = decide (k ∈ l.keys) := by
  refine decide_eq_decide.2 ?_
  rw [Tr.keys, List.mem_append, List.mem_cons]
  exact ⟨fun h1 => h1.elim id fun h2 => h2.elim (fun e => absurd e (keyLt_ne h)) fun h3 => absurd (keyLt_trans h (hr k h3)) (keyLt_irrefl k), .inl⟩
theorem in_right {k : Int × Int} {b : Nat} {l r : Tr} {v i lev : Int} (h : keyLt (v, i) k) (hl : ∀ y, y ∈ l.keys → keyLt y (v, i)) : decide (k ∈ (Tr.node b l v i lev r).keys) = decide (k ∈ r.keys) := by
  refine decide_eq_decide.2 ?_
  rw [Tr.keys, List.mem_append, List.mem_cons]
  exact ⟨fun h1 => h1.elim (fun h2 => absurd (keyLt_trans (hl k h2) h) (keyLt_irrefl k)) fun h2 => h2.elim (fun e => absurd e (keyLt_ne h).symm) id, fun h => .inr (.inr h)⟩

/-- another key is laid at a node -/
theorem Mid.setKey {w0 w : World} {S : List Nat} {ks : List (Int × Int)} {K : Int} {b : Nat} {l r : Tr} {v i lev : Int} (h : Mid 209 w0 S ks K w (.node b l v i lev r)) (v' i' : Int) :
    Mid 209 w0 S (l.keys ++ (v', i') :: r.keys) K ((w.setCell ⟨b, 0, none⟩ (.int .i64 v')).setCell ⟨b, 1, none⟩ (.int .i64 i')) (.node b l v' i' lev r) := by
  obtain ⟨hb, hl, hr⟩ := h.tr
  obtain ⟨n1, n2, n3, n4, n5⟩ := nodup_parts h.nodup
  have hS := h.sub b (by simp [Tr.blocks])
  have h1 : Blk (w.setCell ⟨b, 0, none⟩ (.int .i64 v')) b (nodeCells v' i lev l.ptr r.ptr) 209 := Blk.set hb 0 (.int .i64 v')
  have h2 : Blk ((w.setCell ⟨b, 0, none⟩ (.int .i64 v')).setCell ⟨b, 1, none⟩ (.int .i64 i')) b (nodeCells v' i' lev l.ptr r.ptr) 209 := Blk.set h1 1 (.int .i64 i')
  exact ⟨⟨h2, (hl.setCell _ n1).setCell _ n1, (hr.setCell _ n2).setCell _ n2⟩, rfl, h.nodup, h.sub, h.lv, (h.turns.setCell hS _).setCell hS _⟩

set_option maxRecDepth 100000 in
set_option maxHeartbeats 8000000 in
theorem without_any : ∀ (t : Tr) (k1 k2 : Int) (w : World) (K : Int), IsTr 209 w t → t.blocks.Nodup → Lv K t → 1 ≤ K → K + 2 * t.size ≤ 9223372036854775000 → Up t.keys →
    Calls Try.prog 125 #[.pointer t.ptr, keyV (k1, k2)] w fun e w' => ∃ t', e = .returned (.tuple #[.pointer t'.ptr, .bool (decide ((k1, k2) ∈ t.keys))]) ∧ Mid 209 w t.blocks (t.keys.filter (fun y => decide (y ≠ (k1, k2)))) (K + 2 * t.size) w' t' := by
  intro t
  induction t with
  | nil =>
    intro k1 k2 w K _ _ _ hK1 _ _
    show Calls _ _ #[.pointer none, _] _ fun e w' => ∃ t', e = .returned (.tuple #[.pointer t'.ptr, .bool (decide ((k1, k2) ∈ ([] : List (Int × Int))))]) ∧ Mid 209 w [] [] (K + 2 * (0 : Nat)) w' t'
    go_enter Try.func125, Try.ntmps125
    go_wp2_with fail
    go_ret2
    exact ⟨.nil, by simp [Tr.ptr], ⟨trivial, rfl, by simp [Tr.blocks], fun x hx => by simp [Tr.blocks] at hx, trivial, (Turns.refl _ _).alloc _⟩⟩
  | node b l v i lev r ihl ihr =>
    intro k1 k2 w K hT hn hL hK1 hKb hup
    have hM := Mid.start hT hn hL
    obtain ⟨W1, hW1⟩ : ∃ W1, W1 = w.alloc (.cells #[.int .i64 k1, .int .i64 k2] 144) := ⟨_, rfl⟩
    have hb1 : Below w.heap.size w W1 := by rw [hW1]; exact (Below.refl _ _).alloc (Nat.le_refl _) _
    have hq : Blk W1 w.heap.size #[.int .i64 k1, .int .i64 k2] 144 := by rw [hW1]; exact Blk.new _ _ _
    have hM1 := hM.below hb1
    have q0 : W1.cell? ⟨w.heap.size, 0, none⟩ = some (.int .i64 k1) := Blk.cell hq 0
    have q1 : W1.cell? ⟨w.heap.size, 1, none⟩ = some (.int .i64 k2) := Blk.cell hq 1
    obtain ⟨c0, c1, c2, c3, c4, cf⟩ := hM1.tr.1.node
    obtain ⟨up1, up2, up3, up4, up5⟩ := hup.parts
    have hsz : (Tr.node b l v i lev r).size = l.size + r.size + 1 := rfl
    show Calls _ _ #[.pointer (some ⟨b, 0, none⟩), _] _ _
    have HM1 := Lib.hid hM1
    have HW1 := Lib.hid hW1
    have HQ := Lib.hid hq
    have HUP := Lib.hid (And.intro up1 (And.intro up2 (And.intro up3 up4)))
    have IHL := Lib.hid ihl
    have IHR := Lib.hid ihr
    clear hM hM1 hW1 hq hT hn hup up1 up2 up3 up4 up5 ihl ihr
    go_enter Try.func125, Try.ntmps125
    go_wp2_with fail
    rw [← HW1.out]
    clear HW1
    have MCMP := Lib.hid fun W => compare_any k1 k2 v i W
    obtain ⟨cc, hcc⟩ : ∃ cc, cc = cmpK (k1, k2) (v, i) := ⟨_, rfl⟩
    rw [← hcc] at MCMP
    have HCC := Lib.hid hcc
    clear hcc
    have hz1 := Nat.le_refl W1.heap.size
    have SO := Lib.hid fun w' (h : Below W1.heap.size W1 w') => (⟨h, (HM1.out.below h).tr.1.node, Blk.cell (HQ.out.below h HQ.out.lt) 0, Blk.cell (HQ.out.below h HQ.out.lt) 1⟩ :
      Below W1.heap.size W1 w' ∧ NodeFacts w' b v i lev l.ptr r.ptr ∧ w'.cell? ⟨w.heap.size, 0, none⟩ = some (.int .i64 k1) ∧ w'.cell? ⟨w.heap.size, 1, none⟩ = some (.int .i64 k2))
    go_region_held3 (fun w' => Below W1.heap.size W1 w' ∧ NodeFacts w' b v i lev l.ptr r.ptr ∧ w'.cell? ⟨w.heap.size, 0, none⟩ = some (.int .i64 k1) ∧ w'.cell? ⟨w.heap.size, 1, none⟩ = some (.int .i64 k2))
      (first | exact SO.out _ (kp_drew (by assumption)) | exact SO.out _ (kp_call (by assumption) (by assumption) hz1) | exact SO.out _ (kp_same (by assumption)) | exact SO.out _ (kp_start _ _))
      (first | (go_at_call 147; refine (MCMP.out _).mono ?_; rintro e w' ⟨rfl, hc1⟩))
    rename_i hHeld
    obtain ⟨w2, hw2⟩ : ∃ W, W = w' := ⟨_, rfl⟩
    rw [← hw2] at hHeld ⊢
    clear hw2
    obtain ⟨hbw, ⟨d0, d1, d2, d3, d4, df⟩, z0, z1⟩ := hHeld
    have H2 := Lib.hid (HM1.out.below hbw)
    clear hbw hb1 SO MCMP q0 q1 c0 c1 c2 c3 c4 cf
    rcases keyLt_total (k1, k2) (v, i) with hc | hc | hc
    · rw [show cc = -1 from HCC.out.trans (cmpK_lt hc)]
      obtain ⟨lv, hlv⟩ : ∃ x, x = decide ((k1, k2) ∈ l.keys) := ⟨_, rfl⟩
      have HB : Hid (decide ((k1, k2) ∈ (Tr.node b l v i lev r).keys) = lv) := Lib.hid (by rw [hlv]; exact in_left hc HUP.out.2.2.2)
      have HK : Hid (l.keys.filter (fun y => decide (y ≠ (k1, k2))) ++ (v, i) :: r.keys = (Tr.node b l v i lev r).keys.filter (fun y => decide (y ≠ (k1, k2)))) := Lib.hid (filter_left hc HUP.out.2.2.2).symm
      have MC := Lib.hid (show ∀ W, W = w2 ∨ W = w2.drew → Calls Try.prog 125 #[.pointer l.ptr, .agg #[.int .i64 k1, .int .i64 k2]] W fun e w' => ∃ l', e = .returned (.tuple #[.pointer l'.ptr, .bool lv]) ∧ NodeFacts w' b v i lev l.ptr r.ptr ∧
          Hid (Mid 209 w (Tr.node b l v i lev r).blocks (l.keys.filter (fun y => decide (y ≠ (k1, k2))) ++ (v, i) :: r.keys) (K + 2 * l.size) (w'.setCell ⟨b, 3, none⟩ (.pointer l'.ptr)) (.node b l' v i lev r)) from fun W hW => by
        have hMW : Mid 209 w (Tr.node b l v i lev r).blocks (Tr.node b l v i lev r).keys K W (.node b l v i lev r) := by
          rcases hW with rfl | rfl
          · exact H2.out
          · exact H2.out.drew
        refine (IHL.out k1 k2 W K hMW.left.tr hMW.left.nodup hMW.left.lv hK1 (by rw [hsz] at hKb; omega) HUP.out.1).mono ?_
        rintro e w' ⟨l', rfl, k⟩
        exact ⟨l', by rw [hlv], (hMW.ownL k).node, hMW.setLeft k (by omega)⟩)
      clear IHL IHR HUP hlv HQ HM1
      go_wp2_with fail
      go_region_with (go_at_call 125; refine (MC.out _ (by first | exact .inr rfl | exact .inl rfl)).mono ?_; rintro e w5 ⟨l5, rfl, ⟨y0, y1, y2, y3, y4, yf⟩, k5⟩)
      all_goals
        have K5 := Lib.hid k5
        clear k5
        go_wp2_with fail
        refine (settled_any _ _ _ _ _ _ _ K5.out (by omega) (by rw [hsz] at hKb; omega)).mono ?_
        rintro e w7 ⟨t7, rfl, k7⟩
        have K7 := Lib.hid k7
        clear k7
        go_wp2_with fail
        go_ret2
        refine ⟨t7, by rw [HB.out]; rfl, ?_⟩
        rw [← HK.out]
        exact K7.out.mono (by rw [hsz]; omega)
    · rw [show cc = 0 from HCC.out.trans (by rw [hc]; exact cmpK_eq _)]
      have HB : Hid (decide ((k1, k2) ∈ (Tr.node b l v i lev r).keys) = true) := Lib.hid (decide_eq_true (by rw [hc]; simp [Tr.keys]))
      rw [hc]
      have hks : k1 = v ∧ k2 = i := by injection hc with a b; exact ⟨a, b⟩
      obtain ⟨rfl, rfl⟩ := hks
      clear hc
      cases l with
      | node bl ll vl il levl rl =>
        have d3' : w2.cell? ⟨b, 3, none⟩ = some (.pointer (some ⟨bl, 0, none⟩)) := d3
        clear d3
        have MF := Lib.hid (last_any _ _ _ _ _ _ w2 H2.out.left.tr H2.out.left.nodup)
        go_wp2_with fail
        refine MF.out.mono ?_
        rintro e w3 ⟨bq, v', i', rfl, hend, g0, g1, _, rfl⟩
        obtain ⟨W4, hW4⟩ : ∃ W4, W4 = (w3.setCell ⟨b, 0, none⟩ (.int .i64 v')).setCell ⟨b, 1, none⟩ (.int .i64 i') := ⟨_, rfl⟩
        have h4 := H2.out.setKey v' i'
        rw [← hW4] at h4
        have HW4 := Lib.hid hW4
        clear hW4
        obtain ⟨s0, s1, s2, s3, s4, sf⟩ := h4.tr.1.node
        have H4 := Lib.hid h4
        have HK : Hid ((Tr.node bl ll vl il levl rl).keys.filter (fun y => decide (y ≠ (v', i'))) ++ (v', i') :: r.keys = (Tr.node b (Tr.node bl ll vl il levl rl) k1 k2 lev r).keys.filter (fun y => decide (y ≠ (k1, k2)))) := Lib.hid ((filter_last hend HUP.out.1).trans (filter_same HUP.out.2.2.1 HUP.out.2.2.2).symm)
        have MC := Lib.hid (show ∀ W, W = W4 ∨ W = W4.drew → Calls Try.prog 125 #[.pointer (some ⟨bl, 0, none⟩), .agg #[.int .i64 v', .int .i64 i']] W fun e w' => ∃ l' x, e = .returned (.tuple #[.pointer l'.ptr, .bool x]) ∧ NodeFacts w' b v' i' lev (Tr.node bl ll vl il levl rl).ptr r.ptr ∧
            Hid (Mid 209 w (Tr.node b (Tr.node bl ll vl il levl rl) k1 k2 lev r).blocks ((Tr.node bl ll vl il levl rl).keys.filter (fun y => decide (y ≠ (v', i'))) ++ (v', i') :: r.keys) (K + 2 * (Tr.node bl ll vl il levl rl).size) (w'.setCell ⟨b, 3, none⟩ (.pointer l'.ptr)) (.node b l' v' i' lev r)) from fun W hW => by
          have hMW : Mid 209 w (Tr.node b (Tr.node bl ll vl il levl rl) k1 k2 lev r).blocks ((Tr.node bl ll vl il levl rl).keys ++ (v', i') :: r.keys) K W (.node b (Tr.node bl ll vl il levl rl) v' i' lev r) := by
            rcases hW with rfl | rfl
            · exact H4.out
            · exact H4.out.drew
          refine (IHL.out v' i' W K hMW.left.tr hMW.left.nodup hMW.left.lv hK1 (by rw [hsz] at hKb; omega) HUP.out.1).mono ?_
          rintro e w' ⟨l', rfl, k⟩
          exact ⟨l', _, rfl, (hMW.ownL k).node, hMW.setLeft k (by omega)⟩)
        clear h4 IHL IHR HUP HQ HM1 MF
        go_wp2_with fail
        rw [← HW4.out]
        clear HW4 d0 d1 d2 d3' d4 df g0 g1
        have sS : W4.cell? ⟨b, 3, none⟩ = some (.pointer (some ⟨bl, 0, none⟩)) := s3
        clear s3
        go_region_with (go_at_call 125; refine (MC.out _ (by first | exact .inr rfl | exact .inl rfl)).mono ?_; rintro e w5 ⟨l5, x5, rfl, ⟨y0, y1, y2, y3, y4, yf⟩, k5⟩)
        all_goals
          have K5 := Lib.hid k5
          clear k5
          go_wp2_with fail
          refine (settled_any _ _ _ _ _ _ _ K5.out (by omega) (by rw [hsz] at hKb; omega)).mono ?_
          rintro e w7 ⟨t7, rfl, k7⟩
          have K7 := Lib.hid k7
          clear k7
          go_wp2_with fail
          go_ret2
          refine ⟨t7, by rw [HB.out]; rfl, ?_⟩
          rw [← HK.out]
          exact K7.out.mono (by rw [hsz]; omega)
      | nil =>
        have d3' : w2.cell? ⟨b, 3, none⟩ = some (.pointer none) := d3
        clear d3
        cases r with
        | nil =>
          have d4' : w2.cell? ⟨b, 4, none⟩ = some (.pointer none) := d4
          clear d4 IHL IHR HUP HQ HM1
          go_wp2_with fail
          go_ret2
          refine ⟨.nil, by rw [HB.out]; rfl, ⟨trivial, by simp [Tr.keys], by simp [Tr.blocks], fun x hx => by simp [Tr.blocks] at hx, trivial, H2.out.turns⟩⟩
        | node br lr vr ir levr rr =>
          have d4' : w2.cell? ⟨b, 4, none⟩ = some (.pointer (some ⟨br, 0, none⟩)) := d4
          clear d4
          have MF := Lib.hid (first_any _ _ _ _ _ _ w2 H2.out.right.tr H2.out.right.nodup)
          go_wp2_with fail
          refine MF.out.mono ?_
          rintro e w3 ⟨bq, v', i', rfl, hend, g0, g1, _, rfl⟩
          obtain ⟨W4, hW4⟩ : ∃ W4, W4 = (w3.setCell ⟨b, 0, none⟩ (.int .i64 v')).setCell ⟨b, 1, none⟩ (.int .i64 i') := ⟨_, rfl⟩
          have h4 := H2.out.setKey v' i'
          rw [← hW4] at h4
          have HW4 := Lib.hid hW4
          clear hW4
          obtain ⟨s0, s1, s2, s3, s4, sf⟩ := h4.tr.1.node
          have H4 := Lib.hid h4
          have HK : Hid (Tr.nil.keys ++ (v', i') :: (Tr.node br lr vr ir levr rr).keys.filter (fun y => decide (y ≠ (v', i'))) = (Tr.node b Tr.nil k1 k2 lev (Tr.node br lr vr ir levr rr)).keys.filter (fun y => decide (y ≠ (k1, k2)))) := Lib.hid ((filter_head hend HUP.out.2.1).trans (filter_same HUP.out.2.2.1 HUP.out.2.2.2).symm)
          have MC := Lib.hid (show ∀ W, W = W4 ∨ W = W4.drew → Calls Try.prog 125 #[.pointer (some ⟨br, 0, none⟩), .agg #[.int .i64 v', .int .i64 i']] W fun e w' => ∃ l' x, e = .returned (.tuple #[.pointer l'.ptr, .bool x]) ∧ NodeFacts w' b v' i' lev Tr.nil.ptr (Tr.node br lr vr ir levr rr).ptr ∧
              Hid (Mid 209 w (Tr.node b Tr.nil k1 k2 lev (Tr.node br lr vr ir levr rr)).blocks (Tr.nil.keys ++ (v', i') :: (Tr.node br lr vr ir levr rr).keys.filter (fun y => decide (y ≠ (v', i')))) (K + 2 * (Tr.node br lr vr ir levr rr).size) (w'.setCell ⟨b, 4, none⟩ (.pointer l'.ptr)) (.node b Tr.nil v' i' lev l')) from fun W hW => by
            have hMW : Mid 209 w (Tr.node b Tr.nil k1 k2 lev (Tr.node br lr vr ir levr rr)).blocks (Tr.nil.keys ++ (v', i') :: (Tr.node br lr vr ir levr rr).keys) K W (.node b Tr.nil v' i' lev (Tr.node br lr vr ir levr rr)) := by
              rcases hW with rfl | rfl
              · exact H4.out
              · exact H4.out.drew
            refine (IHR.out v' i' W K hMW.right.tr hMW.right.nodup hMW.right.lv hK1 (by rw [hsz] at hKb; omega) HUP.out.2.1).mono ?_
            rintro e w' ⟨l', rfl, k⟩
            exact ⟨l', _, rfl, (hMW.ownR k).node, hMW.setRight k (by omega)⟩)
          clear h4 IHL IHR HUP HQ HM1 MF
          go_wp2_with fail
          rw [← HW4.out]
          clear HW4 d0 d1 d2 d3' d4' df g0 g1
          have sS : W4.cell? ⟨b, 4, none⟩ = some (.pointer (some ⟨br, 0, none⟩)) := s4
          clear s4
          go_region_with (go_at_call 125; refine (MC.out _ (by first | exact .inr rfl | exact .inl rfl)).mono ?_; rintro e w5 ⟨l5, x5, rfl, ⟨y0, y1, y2, y3, y4, yf⟩, k5⟩)
          all_goals
            have K5 := Lib.hid k5
            clear k5
            go_wp2_with fail
            refine (settled_any _ _ _ _ _ _ _ K5.out (by omega) (by rw [hsz] at hKb; omega)).mono ?_
            rintro e w7 ⟨t7, rfl, k7⟩
            have K7 := Lib.hid k7
            clear k7
            go_wp2_with fail
            go_ret2
            refine ⟨t7, by rw [HB.out]; rfl, ?_⟩
            rw [← HK.out]
            exact K7.out.mono (by rw [hsz]; omega)
    · rw [show cc = 1 from HCC.out.trans (cmpK_gt hc)]
      obtain ⟨lv, hlv⟩ : ∃ x, x = decide ((k1, k2) ∈ r.keys) := ⟨_, rfl⟩
      have HB : Hid (decide ((k1, k2) ∈ (Tr.node b l v i lev r).keys) = lv) := Lib.hid (by rw [hlv]; exact in_right hc HUP.out.2.2.1)
      have HK : Hid (l.keys ++ (v, i) :: r.keys.filter (fun y => decide (y ≠ (k1, k2))) = (Tr.node b l v i lev r).keys.filter (fun y => decide (y ≠ (k1, k2)))) := Lib.hid (filter_right hc HUP.out.2.2.1).symm
      have MC := Lib.hid (show ∀ W, W = w2 ∨ W = w2.drew → Calls Try.prog 125 #[.pointer r.ptr, .agg #[.int .i64 k1, .int .i64 k2]] W fun e w' => ∃ l', e = .returned (.tuple #[.pointer l'.ptr, .bool lv]) ∧ NodeFacts w' b v i lev l.ptr r.ptr ∧
          Hid (Mid 209 w (Tr.node b l v i lev r).blocks (l.keys ++ (v, i) :: r.keys.filter (fun y => decide (y ≠ (k1, k2)))) (K + 2 * r.size) (w'.setCell ⟨b, 4, none⟩ (.pointer l'.ptr)) (.node b l v i lev l')) from fun W hW => by
        have hMW : Mid 209 w (Tr.node b l v i lev r).blocks (Tr.node b l v i lev r).keys K W (.node b l v i lev r) := by
          rcases hW with rfl | rfl
          · exact H2.out
          · exact H2.out.drew
        refine (IHR.out k1 k2 W K hMW.right.tr hMW.right.nodup hMW.right.lv hK1 (by rw [hsz] at hKb; omega) HUP.out.2.1).mono ?_
        rintro e w' ⟨l', rfl, k⟩
        exact ⟨l', by rw [hlv], (hMW.ownR k).node, hMW.setRight k (by omega)⟩)
      clear IHL IHR HUP hlv HQ HM1
      go_wp2_with fail
      go_region_with (go_at_call 125; refine (MC.out _ (by first | exact .inr rfl | exact .inl rfl)).mono ?_; rintro e w5 ⟨l5, rfl, ⟨y0, y1, y2, y3, y4, yf⟩, k5⟩)
      all_goals
        have K5 := Lib.hid k5
        clear k5
        go_wp2_with fail
        refine (settled_any _ _ _ _ _ _ _ K5.out (by omega) (by rw [hsz] at hKb; omega)).mono ?_
        rintro e w7 ⟨t7, rfl, k7⟩
        have K7 := Lib.hid k7
        clear k7
        go_wp2_with fail
        go_ret2
        refine ⟨t7, by rw [HB.out]; rfl, ?_⟩
        rw [← HK.out]
        exact K7.out.mono (by rw [hsz]; omega)
end Go.Proofs.Ytkemhcokkaanfaa
