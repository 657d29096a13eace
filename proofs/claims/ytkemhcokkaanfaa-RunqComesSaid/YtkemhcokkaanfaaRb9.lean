/-
  rbtree.Tree: Min, Next.
-/
import Derived.Test.YtkemhcokkaanfaaRb8
namespace Go.Proofs.Ytkemhcokkaanfaa
open Go.RowKit

/-- a key, or none, as it is told -/
def keyOpt : Option (Int × Int) → Value
  | none => .tuple #[keyV (0, 0), .bool false]
  | some k => .tuple #[keyV k, .bool true]

set_option maxRecDepth 100000 in
theorem tend_any (p : Nat) (S : List Nat) (ks : List (Int × Int)) (K : Int) (w : World) (h : TreeAt w p S ks K) :
    Calls Try.prog 144 #[.pointer (some ⟨p, 0, none⟩), .func (Fn.func 145) #[] #[]] w fun e w' => e = .returned (keyOpt ks.head?) ∧ Below w.heap.size w w' := by
  obtain ⟨⟨t, m, hp, rfl, ht, hn, rfl, hl⟩, hu⟩ := h
  have hal : Below w.heap.size w (w.alloc (.cells #[.int .i64 0, .int .i64 0] 144)) := (Below.refl _ _).alloc (Nat.le_refl _) _
  have p0 : (w.alloc (.cells #[.int .i64 0, .int .i64 0] 144)).cell? ⟨p, 0, none⟩ = some (.pointer t.ptr) := Blk.cell (hp.below hal hp.lt) 0
  cases t with
  | nil =>
    have p0' : (w.alloc (.cells #[.int .i64 0, .int .i64 0] 144)).cell? ⟨p, 0, none⟩ = some (.pointer none) := p0
    show Calls _ _ _ _ fun e w' => e = .returned (.tuple #[keyV (0, 0), .bool false]) ∧ _
    clear hp ht hn hl hu p0 hal
    go_enter Try.func144, Try.ntmps144
    go_wp2_with fail
    refine bodyPost_ret (v := .tuple #[keyV (0, 0), .bool false]) (by simp [results, Try.results144, go_sem]) rfl ?_
    exact ⟨rfl, (Below.refl _ _).alloc (Nat.le_refl _) _⟩
  | node b l v i lev r =>
    have p0' : (w.alloc (.cells #[.int .i64 0, .int .i64 0] 144)).cell? ⟨p, 0, none⟩ = some (.pointer (some ⟨b, 0, none⟩)) := p0
    have MF := Lib.hid (first_any b l r v i lev _ (ht.below hal) hn)
    have HAL := Lib.hid hal
    clear hp ht hn hl hu p0 hal
    go_enter Try.func144, Try.ntmps144
    go_wp2_with fail
    refine MF.out.mono ?_
    rintro e w1 ⟨bq, v', i', rfl, hend, g0, g1, _, rfl⟩
    have HEND := Lib.hid hend
    clear MF hend
    go_wp2_with fail
    refine bodyPost_ret (v := .tuple #[keyV (v', i'), .bool true]) (by simp [results, Try.results144, go_sem]) rfl ?_
    exact ⟨by rw [HEND.out]; rfl, by
      first
      | exact HAL.out
      | exact (HAL.out.setCell (by simp) _).setCell (by simp) _
      | exact (Below.refl _ _).alloc (Nat.le_refl _) _⟩

set_option maxRecDepth 100000 in
theorem tmin_any (p : Nat) (S : List Nat) (ks : List (Int × Int)) (K : Int) (w : World) (h : TreeAt w p S ks K) :
    Calls Try.prog 120 #[.pointer (some ⟨p, 0, none⟩)] w fun e w' => e = .returned (keyOpt ks.head?) ∧ Below w.heap.size w w' := by
  have hal : Below w.heap.size w (w.alloc (.cells #[.int .i64 0, .int .i64 0] 144)) := (Below.refl _ _).alloc (Nat.le_refl _) _
  have ME := Lib.hid (tend_any p S ks K _ (h.below hal))
  have HAL := Lib.hid hal
  clear h hal
  go_enter Try.func120, Try.ntmps120
  go_wp2_with fail
  refine ME.out.mono ?_
  rintro e w1 ⟨he, hb⟩
  have hz : (w.alloc (.cells #[.int .i64 0, .int .i64 0] 144)).heap.size = w.heap.size + 1 := by simp
  have hB1 : Blk w1 w.heap.size #[.int .i64 0, .int .i64 0] 144 := (Blk.new w _ _).below hb (by rw [hz]; omega)
  have hbw : Below w.heap.size w w1 := HAL.out.trans (hb.mono (by rw [hz]; omega))
  have HBW := Lib.hid hbw
  have f0 := Blk.frozen hB1 0
  have f1 := Blk.frozen hB1 1
  have x0 : w1.cell? ⟨w.heap.size, 0, none⟩ = some (.int .i64 0) := Blk.cell hB1 0
  have x1 : w1.cell? ⟨w.heap.size, 1, none⟩ = some (.int .i64 0) := Blk.cell hB1 1
  clear hb hz hB1 hbw
  cases ho : ks.head? with
  | none =>
    rw [ho] at he
    replace he : e = .returned (.tuple #[.agg #[.int .i64 0, .int .i64 0], .bool false]) := he
    subst he
    have HO := Lib.hid ho
    clear ho ME
    go_wp2_with fail
    refine bodyPost_ret (v := .tuple #[keyV (0, 0), .bool false]) (by simp [results, Try.results120, go_sem, x0, x1]) rfl ?_
    exact ⟨by rw [HO.out]; rfl, by
      first
      | exact HBW.out
      | exact (HBW.out.setCell (Nat.le_refl _) _).setCell (Nat.le_refl _) _⟩
  | some k =>
    obtain ⟨k1, k2⟩ := k
    rw [ho] at he
    replace he : e = .returned (.tuple #[.agg #[.int .i64 k1, .int .i64 k2], .bool true]) := he
    subst he
    have HO := Lib.hid ho
    clear ho ME
    go_wp2_with fail
    refine bodyPost_ret (v := .tuple #[keyV (k1, k2), .bool true]) (by simp [results, Try.results120, go_sem, x0, x1]) rfl ?_
    exact ⟨by rw [HO.out]; rfl, by
      first
      | exact HBW.out
      | exact (HBW.out.setCell (Nat.le_refl _) _).setCell (Nat.le_refl _) _⟩

theorem Tr.Sub.up {s : Tr} : ∀ {t : Tr}, s.Sub t → Up t.keys → Up s.keys
  | .nil, h, _ => by rw [show s = .nil from h]; exact List.Pairwise.nil
  | .node b l v i lev r, h, hu => by
    rcases h with rfl | h | h
    · exact hu
    · exact h.up hu.parts.1
    · exact h.up hu.parts.2.1
theorem find_right {k x : Int × Int} {l r : List (Int × Int)} (hx : ¬ keyLt k x) (hl : ∀ y, y ∈ l → keyLt y x) : (l ++ x :: r).find? (fun y => decide (keyLt k y)) = r.find? (fun y => decide (keyLt k y)) := by
  rw [List.find?_append, List.find?_eq_none.2 (fun y hy => by simpa using fun h => hx (keyLt_trans h (hl y hy)))]
  simp [hx]
theorem find_left {k x : Int × Int} {l r : List (Int × Int)} (hx : keyLt k x) : (l ++ x :: r).find? (fun y => decide (keyLt k y)) = (l.find? (fun y => decide (keyLt k y))).or (some x) := by
  rw [List.find?_append]
  simp [hx]
/-- what was found so far: a node of the tree, or none -/
def Found (t0 : Tr) : Value → Option (Int × Int) → Prop
  | .pointer none, none => True
  | .pointer (some a), some k => ∃ (c : Nat) (l r : Tr) (lev : Int), a = ⟨c, 0, none⟩ ∧ (Tr.node c l k.1 k.2 lev r).Sub t0
  | _, _ => False

set_option maxRecDepth 100000 in
set_option maxHeartbeats 4000000 in
theorem tnext_any (p : Nat) (S : List Nat) (ks : List (Int × Int)) (K k1 k2 : Int) (w : World) (h : TreeAt w p S ks K) :
    Calls Try.prog 130 #[.pointer (some ⟨p, 0, none⟩), keyV (k1, k2)] w fun e w' => e = .returned (keyOpt (ks.find? fun y => decide (keyLt (k1, k2) y))) ∧ Below w.heap.size w w' := by
  obtain ⟨⟨t, m, hp, rfl, ht, hn, rfl, hl⟩, hu⟩ := h
  obtain ⟨W1, hW1⟩ : ∃ W1, W1 = (w.alloc (.cells #[.int .i64 k1, .int .i64 k2] 144)).alloc (.cells #[.int .i64 0, .int .i64 0] 144) := ⟨_, rfl⟩
  have hb1 : Below w.heap.size w W1 := by rw [hW1]; exact ((Below.refl _ _).alloc (Nat.le_refl _) _).alloc (by simp) _
  have hq : Blk W1 w.heap.size #[.int .i64 k1, .int .i64 k2] 144 := by rw [hW1]; exact (Blk.new _ _ _).alloc _
  have hz : Blk W1 (w.heap.size + 1) #[.int .i64 0, .int .i64 0] 144 := by
    rw [hW1]
    have := Blk.new (w.alloc (.cells #[.int .i64 k1, .int .i64 k2] 144)) #[.int .i64 0, .int .i64 0] 144
    rw [World.size_alloc] at this
    exact this
  have ht1 := ht.below hb1
  have p0 : W1.cell? ⟨p, 0, none⟩ = some (.pointer t.ptr) := Blk.cell (hp.below hb1 hp.lt) 0
  have p0' := p0
  rw [hW1] at p0'
  have HW1 := Lib.hid hW1
  have HT := Lib.hid (And.intro ht1 (And.intro hn hu))
  have HQ := Lib.hid (And.intro hq (And.intro hz hb1))
  clear hp ht hn hl hu hq hz hb1 hW1 ht1
  go_enter Try.func130, Try.ntmps130
  go_wp2_with fail
  rw [← HW1.out]
  clear HW1
  go_loopw [6, 7] (fun s6 s7 wr => ∃ (s : Tr) (fo : Option (Int × Int)) (po : Option Addr), s7 = .pointer po ∧ Hid (po = s.ptr) ∧ Hid (s.Sub t ∨ s = .nil) ∧ Hid (Found t s6 fo) ∧ Hid (t.keys.find? (fun y => decide (keyLt (k1, k2) y)) = (s.keys.find? (fun y => decide (keyLt (k1, k2) y))).or fo) ∧ Below W1.heap.size W1 wr) (fun _ s7 _ => ptrSize t s7)
  case atStart => exact ⟨t, none, t.ptr, rfl, rfl, .inl (Tr.Sub.refl _), trivial, by simp [Hid], Below.refl _ _⟩
  case round =>
    obtain ⟨s, fo, po, rfl, HP, HSub, HF, HE, hB⟩ := hrel
    cases s with
    | nil =>
      obtain rfl : po = none := HP.out
      have HX := Lib.hid (HQ.out.2.2.trans (hB.mono HQ.out.2.2.size))
      have hz := HQ.out.2.1.below hB HQ.out.2.1.lt
      have x0 : wr.cell? ⟨w.heap.size + 1, 0, none⟩ = some (.int .i64 0) := Blk.cell hz 0
      have x1 : wr.cell? ⟨w.heap.size + 1, 1, none⟩ = some (.int .i64 0) := Blk.cell hz 1
      have xf := Blk.frozen hz
      have HE2 : Hid (t.keys.find? (fun y => decide (keyLt (k1, k2) y)) = fo) := Lib.hid (HE.out.trans (by simp [Tr.keys]))
      cases fo with
      | none =>
        have hs6 : ∃ u, u6 = u := ⟨_, rfl⟩
        cases u6 with
        | pointer pp =>
          cases pp with
          | none =>
            clear hB hz hs6
            go_wp2_with fail
            refine bodyPost_ret (v := .tuple #[keyV (0, 0), .bool false]) (by simp [results, Try.results130, go_sem, x0, x1]) rfl ?_
            exact ⟨by rw [HE2.out]; rfl, by
              first
              | exact HX.out
              | exact (HX.out.setCell (by simp) _).setCell (by simp) _⟩
          | some a => exact absurd HF.out (by simp [Found])
        | _ => exact absurd HF.out (by simp [Found])
      | some k =>
        cases u6 with
        | pointer pp =>
          cases pp with
          | none => exact absurd HF.out (by simp [Found])
          | some a =>
            obtain ⟨c, l, r, lev, rfl, hs⟩ := HF.out
            have hT := (hs.tr HT.out.1).below hB
            obtain ⟨c0, c1, c2, c3, c4, cf⟩ := hT.1.node
            obtain ⟨a1, a2⟩ := k
            clear hB hz hs hT
            go_wp2_with fail
            refine bodyPost_ret (v := .tuple #[keyV (a1, a2), .bool true]) (by simp [results, Try.results130, go_sem, x0, x1]) rfl ?_
            exact ⟨by rw [HE2.out]; rfl, by
              first
              | exact HX.out
              | exact (HX.out.setCell (by simp) _).setCell (by simp) _⟩
        | _ => exact absurd HF.out (by simp [Found])
    | node c l v i lev r =>
      obtain rfl : po = some ⟨c, 0, none⟩ := HP.out
      have hsub : (Tr.node c l v i lev r).Sub t := HSub.out.resolve_right (by simp)
      have hT := (hsub.tr HT.out.1).below hB
      obtain ⟨c0, c1, c2, c3, c4, cf⟩ := hT.1.node
      have y0 : wr.cell? ⟨w.heap.size, 0, none⟩ = some (.int .i64 k1) := Blk.cell (HQ.out.1.below hB HQ.out.1.lt) 0
      have y1 : wr.cell? ⟨w.heap.size, 1, none⟩ = some (.int .i64 k2) := Blk.cell (HQ.out.1.below hB HQ.out.1.lt) 1
      have hup := (hsub.up HT.out.2.2).parts
      have HSS := Lib.hid (And.intro hsub hup)
      have HTT := Lib.hid hT
      have HBB := Lib.hid hB
      have MCMP := Lib.hid fun W => compare_any v i k1 k2 W
      obtain ⟨cc, hcc⟩ : ∃ cc, cc = cmpK (v, i) (k1, k2) := ⟨_, rfl⟩
      rw [← hcc] at MCMP
      have HCC := Lib.hid hcc
      have hz1 := Nat.le_refl wr.heap.size
      have SO := Lib.hid fun w' (h : Below wr.heap.size wr w') => (⟨h, (hT.below h).1.node, Blk.cell ((HQ.out.1.below hB HQ.out.1.lt).below h (HQ.out.1.below hB HQ.out.1.lt).lt) 0, Blk.cell ((HQ.out.1.below hB HQ.out.1.lt).below h (HQ.out.1.below hB HQ.out.1.lt).lt) 1⟩ :
        Below wr.heap.size wr w' ∧ NodeFacts w' c v i lev l.ptr r.ptr ∧ w'.cell? ⟨w.heap.size, 0, none⟩ = some (.int .i64 k1) ∧ w'.cell? ⟨w.heap.size, 1, none⟩ = some (.int .i64 k2))
      clear hcc hsub hup hT hB
      go_wp2_with fail
      go_region_held3 (fun w' => Below wr.heap.size wr w' ∧ NodeFacts w' c v i lev l.ptr r.ptr ∧ w'.cell? ⟨w.heap.size, 0, none⟩ = some (.int .i64 k1) ∧ w'.cell? ⟨w.heap.size, 1, none⟩ = some (.int .i64 k2))
        (first | exact SO.out _ (kp_drew (by assumption)) | exact SO.out _ (kp_call (by assumption) (by assumption) hz1) | exact SO.out _ (kp_same (by assumption)) | exact SO.out _ (kp_start _ _))
        (first | (go_at_call 147; refine (MCMP.out _).mono ?_; rintro e w' ⟨rfl, hc1⟩))
      rename_i hHeld
      obtain ⟨w2, hw2⟩ : ∃ W, W = w' := ⟨_, rfl⟩
      rw [← hw2] at hHeld ⊢
      clear hw2
      obtain ⟨hbw, ⟨d0, d1, d2, d3, d4, df⟩, z0, z1⟩ := hHeld
      have HB2 : Hid (Below W1.heap.size W1 w2) := Lib.hid (HBB.out.trans (hbw.mono HBB.out.size))
      clear hbw SO MCMP c0 c1 c2 c3 c4 cf y0 y1
      by_cases hlt : keyLt (k1, k2) (v, i)
      · obtain rfl : cc = 1 := HCC.out.trans (cmpK_gt hlt)
        have HLT := Lib.hid hlt
        clear hlt
        go_wp2_with fail
        go_big_quiet (fail)
        go_wp2_with fail
        go_roundw
        case rel => exact ⟨l, some (v, i), l.ptr, rfl, rfl, .inl HSS.out.1.left, ⟨c, l, r, lev, rfl, HSS.out.1⟩, by
          show t.keys.find? _ = _
          rw [HE.out, Tr.keys, find_left HLT.out]
          cases List.find? (fun y => decide (keyLt (k1, k2) y)) l.keys <;> rfl, below_drewN HB2.out _⟩
        case measure =>
          show ptrSize t (.pointer l.ptr) < t.sizeAt c
          rw [HSS.out.1.size HT.out.2.1]
          cases l with
          | nil => show 0 < _; omega
          | node cl ll vl il levl rl =>
            show t.sizeAt cl < _
            rw [HSS.out.1.left.size HT.out.2.1]
            simp [Tr.size]; omega
      · rcases keyLt_total (v, i) (k1, k2) with h | h | h
        · obtain rfl : cc = -1 := HCC.out.trans (cmpK_lt h)
          have HLT := Lib.hid hlt
          clear hlt h HCC
          go_wp2_with fail
          refine ⟨⟨r, fo, r.ptr, rfl, rfl, .inl HSS.out.1.right, HF, by
            show t.keys.find? _ = _
            rw [HE.out, Tr.keys, find_right HLT.out HSS.out.2.2.2.1], HB2.out⟩, ?_⟩
          show ptrSize t (.pointer r.ptr) < t.sizeAt c
          rw [HSS.out.1.size HT.out.2.1]
          cases r with
          | nil => show 0 < _; omega
          | node cl ll vl il levl rl =>
            show t.sizeAt cl < _
            rw [HSS.out.1.right.size HT.out.2.1]
            simp [Tr.size]; omega
        · obtain rfl : cc = 0 := HCC.out.trans (by rw [h, cmpK_eq])
          have HLT := Lib.hid hlt
          clear hlt h HCC
          go_wp2_with fail
          refine ⟨⟨r, fo, r.ptr, rfl, rfl, .inl HSS.out.1.right, HF, by
            show t.keys.find? _ = _
            rw [HE.out, Tr.keys, find_right HLT.out HSS.out.2.2.2.1], HB2.out⟩, ?_⟩
          show ptrSize t (.pointer r.ptr) < t.sizeAt c
          rw [HSS.out.1.size HT.out.2.1]
          cases r with
          | nil => show 0 < _; omega
          | node cl ll vl il levl rl =>
            show t.sizeAt cl < _
            rw [HSS.out.1.right.size HT.out.2.1]
            simp [Tr.size]; omega
        · exact absurd h hlt
end Go.Proofs.Ytkemhcokkaanfaa
