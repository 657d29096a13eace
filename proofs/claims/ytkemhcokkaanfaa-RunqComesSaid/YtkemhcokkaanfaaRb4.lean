/-
  rbtree: a key more.
-/
import Derived.Test.YtkemhcokkaanfaaRb3
namespace Go.Proofs.Ytkemhcokkaanfaa
open Go.RowKit

/-! Keys in order. -/
theorem keyLt_irrefl (a : Int × Int) : ¬ keyLt a a := by unfold keyLt; omega
theorem keyLt_trans {a b c : Int × Int} (h : keyLt a b) (k : keyLt b c) : keyLt a c := by unfold keyLt at *; omega
theorem keyLt_asymm {a b : Int × Int} (h : keyLt a b) : ¬ keyLt b a := by unfold keyLt at *; omega
theorem keyLt_ne {a b : Int × Int} (h : keyLt a b) : a ≠ b := by rintro rfl; exact keyLt_irrefl a h
theorem keyLt_total (a b : Int × Int) : keyLt a b ∨ a = b ∨ keyLt b a := by
  obtain ⟨a1, a2⟩ := a
  obtain ⟨b1, b2⟩ := b
  unfold keyLt
  by_cases h1 : a1 = b1
  · by_cases h2 : a2 = b2
    · subst h1 h2; exact .inr (.inl rfl)
    · omega
  · omega
theorem cmpK_lt {a b : Int × Int} (h : keyLt a b) : cmpK a b = -1 := by unfold cmpK; rw [if_neg (keyLt_ne h), if_pos h]
theorem cmpK_eq (a : Int × Int) : cmpK a a = 0 := if_pos rfl
theorem cmpK_gt {a b : Int × Int} (h : keyLt b a) : cmpK a b = 1 := by unfold cmpK; rw [if_neg (keyLt_ne h).symm, if_neg (keyLt_asymm h)]
abbrev Up (l : List (Int × Int)) : Prop := l.Pairwise keyLt
theorem Up.parts {l r : List (Int × Int)} {x : Int × Int} (h : Up (l ++ x :: r)) : Up l ∧ Up r ∧ (∀ y, y ∈ l → keyLt y x) ∧ (∀ y, y ∈ r → keyLt x y) ∧ ∀ y, y ∈ l → ∀ z, z ∈ r → keyLt y z := by
  rw [Up, List.pairwise_append, List.pairwise_cons] at h
  exact ⟨h.1, h.2.1.2, fun y hy => h.2.2 y hy x (by simp), h.2.1.1, fun y hy z hz => h.2.2 y hy z (by simp [hz])⟩
def insK (k : Int × Int) : List (Int × Int) → List (Int × Int)
  | [] => [k]
  | y :: ys => if keyLt k y then k :: y :: ys else if k = y then y :: ys else y :: insK k ys
theorem insK_left {k x : Int × Int} (h : keyLt k x) (r : List (Int × Int)) : ∀ l : List (Int × Int), insK k (l ++ x :: r) = insK k l ++ x :: r
  | [] => by simp [insK, h]
  | y :: l => by
    rw [List.cons_append]
    unfold insK
    rw [insK_left h r l]
    split
    · rfl
    · split <;> rfl
theorem insK_right {k x : Int × Int} (h : keyLt x k) (r : List (Int × Int)) : ∀ l : List (Int × Int), (∀ y, y ∈ l → keyLt y x) → insK k (l ++ x :: r) = l ++ x :: insK k r
  | [], _ => by simp [insK, keyLt_asymm h, (keyLt_ne h).symm]
  | y :: l, hl => by
    have hy := keyLt_trans (hl y (by simp)) h
    rw [List.cons_append, List.cons_append]
    show (if keyLt k y then _ else if k = y then _ else y :: insK k (l ++ x :: r)) = _
    rw [if_neg (keyLt_asymm hy), if_neg (keyLt_ne hy).symm, insK_right h r l (fun z hz => hl z (by simp [hz]))]
theorem insK_same (x : Int × Int) (r : List (Int × Int)) : ∀ l : List (Int × Int), (∀ y, y ∈ l → keyLt y x) → insK x (l ++ x :: r) = l ++ x :: r
  | [], _ => by simp [insK, keyLt_irrefl]
  | y :: l, hl => by
    have hy := hl y (by simp)
    rw [List.cons_append]
    show (if keyLt x y then _ else if x = y then _ else y :: insK x (l ++ x :: r)) = _
    rw [if_neg (keyLt_asymm hy), if_neg (keyLt_ne hy).symm, insK_same x r l (fun z hz => hl z (by simp [hz]))]
theorem insK_mem (k x : Int × Int) : ∀ l : List (Int × Int), x ∈ insK k l ↔ x = k ∨ x ∈ l
  | [] => by simp [insK]
  | y :: l => by
    unfold insK
    split
    · simp
    · split
      · rename_i e
        subst e
        simp
      · rw [List.mem_cons, insK_mem k x l, List.mem_cons]
        constructor
        · rintro (h | h | h)
          · exact .inr (.inl h)
          · exact .inl h
          · exact .inr (.inr h)
        · rintro (h | h | h)
          · exact .inr (.inl h)
          · exact .inl h
          · exact .inr (.inr h)
theorem insK_up (k : Int × Int) : ∀ l : List (Int × Int), Up l → Up (insK k l)
  | [], _ => by simp [insK, Up]
  | y :: l, h => by
    rw [Up, List.pairwise_cons] at h
    unfold insK
    split
    · rename_i hk
      refine List.pairwise_cons.2 ⟨fun z hz => ?_, List.pairwise_cons.2 h⟩
      rw [List.mem_cons] at hz
      rcases hz with rfl | hz
      · exact hk
      · exact keyLt_trans hk (h.1 z hz)
    · split
      · exact List.pairwise_cons.2 h
      · rename_i h1 h2
        have hyk : keyLt y k := (keyLt_total k y).elim (fun e => absurd e h1) (fun e => e.elim (fun e => absurd e h2) id)
        refine List.pairwise_cons.2 ⟨fun z hz => ?_, insK_up k l h.2⟩
        rcases (insK_mem k z l).1 hz with rfl | hz
        · exact hyk
        · exact h.1 z hz

theorem notin_left {k : Int × Int} {b : Nat} {l r : Tr} {v i lev : Int} (h : keyLt k (v, i)) (hr : ∀ y, y ∈ r.keys → keyLt (v, i) y) : decide (k ∉ (Tr.node b l v i lev r).keys) = decide (k ∉ l.keys) := by
  have e : k ∈ (Tr.node b l v i lev r).keys ↔ k ∈ l.keys := by
    rw [Tr.keys, List.mem_append, List.mem_cons]
    refine ⟨fun h1 => h1.elim id fun h2 => h2.elim (fun e => absurd e (keyLt_ne h)) fun h3 => absurd (keyLt_trans h (hr k h3)) (keyLt_irrefl k), .inl⟩
  exact decide_eq_decide.2 (not_congr e)
theorem notin_right {k : Int × Int} {b : Nat} {l r : Tr} {v i lev : Int} (h : keyLt (v, i) k) (hl : ∀ y, y ∈ l.keys → keyLt y (v, i)) : decide (k ∉ (Tr.node b l v i lev r).keys) = decide (k ∉ r.keys) := by
  have e : k ∈ (Tr.node b l v i lev r).keys ↔ k ∈ r.keys := by
    rw [Tr.keys, List.mem_append, List.mem_cons]
    refine ⟨fun h1 => h1.elim (fun h2 => absurd (keyLt_trans (hl k h2) h) (keyLt_irrefl k)) fun h2 => h2.elim (fun e => absurd e (keyLt_ne h).symm) id, fun h => .inr (.inr h)⟩
  exact decide_eq_decide.2 (not_congr e)

section
variable {w0 w w' : World} {S : List Nat} {ks : List (Int × Int)} {K K' : Int} {t t' : Tr} {b : Nat} {l r l' r' : Tr} {v i lev : Int}
theorem Mid.drew (h : Mid 209 w0 S ks K w t) : Mid 209 w0 S ks K w.drew t := ⟨h.tr.drew, h.keys, h.nodup, h.sub, h.lv, h.turns.drew⟩

set_option maxRecDepth 100000 in
set_option maxHeartbeats 4000000 in
theorem with_any (k1 k2 : Int) : ∀ (t : Tr) (w : World) (K : Int), IsTr 209 w t → t.blocks.Nodup → Lv K t → 1 ≤ K → K + t.size ≤ 9223372036854775000 → Up t.keys →
    Calls Try.prog 122 #[.pointer t.ptr, keyV (k1, k2)] w fun e w' => ∃ t', e = .returned (.tuple #[.pointer t'.ptr, .bool (decide ((k1, k2) ∉ t.keys))]) ∧ Mid 209 w t.blocks (insK (k1, k2) t.keys) (K + t.size + 1) w' t' := by
  intro t
  induction t with
  | nil =>
    intro w K _ _ _ hK1 _ _
    show Calls _ _ #[.pointer none, _] _ fun e w' => ∃ t', e = .returned (.tuple #[.pointer t'.ptr, .bool (decide ((k1, k2) ∉ ([] : List (Int × Int))))]) ∧ Mid 209 w [] [(k1, k2)] (K + (0 : Nat) + 1) w' t'
    go_enter Try.func122, Try.ntmps122
    go_wp2_with fail
    go_ret2
    refine ⟨.node (w.heap.size + 1) .nil k1 k2 1 .nil, by simp [Tr.ptr], ⟨⟨?_, trivial, trivial⟩, rfl, by simp [Tr.blocks], fun x hx => .inr ?_, ⟨by omega, by omega, trivial, trivial⟩, ?_⟩⟩
    · have := Blk.new (w.alloc (.cells #[.int .i64 k1, .int .i64 k2] 144)) (nodeCells k1 k2 1 none none) 209
      rw [World.size_alloc] at this
      exact this
    · simp [Tr.blocks] at hx
      omega
    · exact ((Turns.refl _ _).alloc _).alloc _
  | node b l v i lev r ihl ihr =>
    intro w K hT hn hL hK1 hKb hup
    have hM := Mid.start hT hn hL
    obtain ⟨W1, hW1⟩ : ∃ W1, W1 = w.alloc (.cells #[.int .i64 k1, .int .i64 k2] 144) := ⟨_, rfl⟩
    have hb1 : Below w.heap.size w W1 := by rw [hW1]; exact (Below.refl _ _).alloc (Nat.le_refl _) _
    have hq : Blk W1 w.heap.size #[.int .i64 k1, .int .i64 k2] 144 := by rw [hW1]; exact Blk.new _ _ _
    have hM1 := hM.below hb1
    have q0 : W1.cell? ⟨w.heap.size, 0, none⟩ = some (.int .i64 k1) := Blk.cell hq 0
    have q1 : W1.cell? ⟨w.heap.size, 1, none⟩ = some (.int .i64 k2) := Blk.cell hq 1
    obtain ⟨c0, c1, c2, c3, c4, cf⟩ := hM1.tr.1.node
    obtain ⟨up1, up2, up3, up4, up5⟩ := hup.parts
    have hsz : (Tr.node b l v i lev r).size = l.size + r.size + 1 := rfl
    show Calls _ _ #[.pointer (some ⟨b, 0, none⟩), _] _ _
    have HM1 := Lib.hid hM1
    have HW1 := Lib.hid hW1
    have HQ := Lib.hid hq
    have HUP := Lib.hid (And.intro up1 (And.intro up2 (And.intro up3 up4)))
    have IHL := Lib.hid ihl
    have IHR := Lib.hid ihr
    clear hM hM1 hW1 hq hT hn hup up1 up2 up3 up4 up5 ihl ihr
    go_enter Try.func122, Try.ntmps122
    go_wp2_with fail
    rw [← HW1.out]
    clear HW1
    go_still_tail 5, (by kernel_rfl)
    go_wp2_with fail
    refine (compare_any k1 k2 v i W1.drew).mono ?_
    rintro e w2 ⟨rfl, hb2'⟩
    obtain ⟨z0, z1⟩ : w2.cell? ⟨w.heap.size, 0, none⟩ = some (.int .i64 k1) ∧ w2.cell? ⟨w.heap.size, 1, none⟩ = some (.int .i64 k2) := ⟨(hb2'.cell (p := ⟨w.heap.size, 0, none⟩) HQ.out.lt).trans q0, (hb2'.cell (p := ⟨w.heap.size, 1, none⟩) HQ.out.lt).trans q1⟩
    have h2 := HM1.out.drew.below hb2'
    obtain ⟨d0, d1, d2, d3, d4, df⟩ := h2.tr.1.node
    have H2 := Lib.hid h2
    clear hb2' hb1 h2 q0 q1 c0 c1 c2 c3 c4 cf
    rcases keyLt_total (k1, k2) (v, i) with hc | hc | hc
    · obtain ⟨lv, hlv⟩ : ∃ x, x = decide ((k1, k2) ∉ l.keys) := ⟨_, rfl⟩
      have HB : Hid (decide ((k1, k2) ∉ (Tr.node b l v i lev r).keys) = lv) := Lib.hid (by rw [hlv]; exact notin_left hc HUP.out.2.2.2)
      have HK : Hid (insK (k1, k2) l.keys ++ (v, i) :: r.keys = insK (k1, k2) (Tr.node b l v i lev r).keys) := Lib.hid (insK_left hc r.keys l.keys).symm
      have MC := Lib.hid (show ∀ W, W = w2 ∨ W = w2.drew → Calls Try.prog 122 #[.pointer l.ptr, .agg #[.int .i64 k1, .int .i64 k2]] W fun e w' => ∃ l', e = .returned (.tuple #[.pointer l'.ptr, .bool lv]) ∧ NodeFacts w' b v i lev l.ptr r.ptr ∧
          Hid (Mid 209 w (Tr.node b l v i lev r).blocks (insK (k1, k2) l.keys ++ (v, i) :: r.keys) (K + l.size + 1) (w'.setCell ⟨b, 3, none⟩ (.pointer l'.ptr)) (.node b l' v i lev r)) from fun W hW => by
        have hMW : Mid 209 w (Tr.node b l v i lev r).blocks (Tr.node b l v i lev r).keys K W (.node b l v i lev r) := by
          rcases hW with rfl | rfl
          · exact H2.out
          · exact H2.out.drew
        refine (IHL.out W K hMW.left.tr hMW.left.nodup hMW.left.lv hK1 (by rw [hsz] at hKb; omega) HUP.out.1).mono ?_
        rintro e w' ⟨l', rfl, k⟩
        exact ⟨l', by rw [hlv], (hMW.ownL k).node, hMW.setLeft k (by omega)⟩)
      clear IHL IHR HUP hlv HQ HM1
      rw [cmpK_lt hc]
      go_wp2_with fail
      go_region_with (go_at_call 122; refine (MC.out _ (by first | exact .inr rfl | exact .inl rfl)).mono ?_; rintro e w5 ⟨l5, rfl, ⟨y0, y1, y2, y3, y4, yf⟩, k5⟩)
      all_goals
        have K5 := Lib.hid k5
        go_wp2_with fail
        refine (K5.out.skewC).mono ?_
        rintro e w6 ⟨t6, rfl, k6⟩
        have K6 := Lib.hid k6
        go_wp2_with fail
        refine (K6.out.splitC (by rw [hsz] at hKb; omega)).mono ?_
        rintro e w7 ⟨t7, rfl, k7⟩
        have K7 := Lib.hid k7
        clear k5 k6 k7
        go_wp2_with fail
        go_ret2
        refine ⟨t7, by rw [HB.out]; rfl, ?_⟩
        rw [← HK.out]
        exact K7.out.mono (by rw [hsz]; omega)
    · have HB : Hid (decide ((k1, k2) ∉ (Tr.node b l v i lev r).keys) = false) := Lib.hid (decide_eq_false (by rw [hc]; simp [Tr.keys]))
      have HK : Hid ((Tr.node b l v i lev r).keys = insK (k1, k2) (Tr.node b l v i lev r).keys) := Lib.hid (by rw [hc]; exact (insK_same (v, i) r.keys l.keys HUP.out.2.2.1).symm)
      have k5 := H2.out
      clear IHL IHR HUP HQ HM1
      rw [show cmpK (k1, k2) (v, i) = 0 by rw [hc]; exact cmpK_eq _]
      clear hc
      have K5 := Lib.hid k5
      go_wp2_with fail
      refine (K5.out.skewC).mono ?_
      rintro e w6 ⟨t6, rfl, k6⟩
      have K6 := Lib.hid k6
      go_wp2_with fail
      refine (K6.out.splitC (by rw [hsz] at hKb; omega)).mono ?_
      rintro e w7 ⟨t7, rfl, k7⟩
      have K7 := Lib.hid k7
      clear k5 k6 k7
      go_wp2_with fail
      go_ret2
      refine ⟨t7, by rw [HB.out]; rfl, ?_⟩
      rw [← HK.out]
      exact K7.out.mono (by rw [hsz]; omega)
    · obtain ⟨lv, hlv⟩ : ∃ x, x = decide ((k1, k2) ∉ r.keys) := ⟨_, rfl⟩
      have HB : Hid (decide ((k1, k2) ∉ (Tr.node b l v i lev r).keys) = lv) := Lib.hid (by rw [hlv]; exact notin_right hc HUP.out.2.2.1)
      have HK : Hid (l.keys ++ (v, i) :: insK (k1, k2) r.keys = insK (k1, k2) (Tr.node b l v i lev r).keys) := Lib.hid (insK_right hc r.keys l.keys HUP.out.2.2.1).symm
      have MC := Lib.hid (show ∀ W, W = w2 ∨ W = w2.drew → Calls Try.prog 122 #[.pointer r.ptr, .agg #[.int .i64 k1, .int .i64 k2]] W fun e w' => ∃ l', e = .returned (.tuple #[.pointer l'.ptr, .bool lv]) ∧ NodeFacts w' b v i lev l.ptr r.ptr ∧
          Hid (Mid 209 w (Tr.node b l v i lev r).blocks (l.keys ++ (v, i) :: insK (k1, k2) r.keys) (K + r.size + 1) (w'.setCell ⟨b, 4, none⟩ (.pointer l'.ptr)) (.node b l v i lev l')) from fun W hW => by
        have hMW : Mid 209 w (Tr.node b l v i lev r).blocks (Tr.node b l v i lev r).keys K W (.node b l v i lev r) := by
          rcases hW with rfl | rfl
          · exact H2.out
          · exact H2.out.drew
        refine (IHR.out W K hMW.right.tr hMW.right.nodup hMW.right.lv hK1 (by rw [hsz] at hKb; omega) HUP.out.2.1).mono ?_
        rintro e w' ⟨l', rfl, k⟩
        exact ⟨l', by rw [hlv], (hMW.ownR k).node, hMW.setRight k (by omega)⟩)
      clear IHL IHR HUP hlv HQ HM1
      rw [cmpK_gt hc]
      go_wp2_with fail
      go_region_with (go_at_call 122; refine (MC.out _ (by first | exact .inr rfl | exact .inl rfl)).mono ?_; rintro e w5 ⟨l5, rfl, ⟨y0, y1, y2, y3, y4, yf⟩, k5⟩)
      all_goals
        have K5 := Lib.hid k5
        go_wp2_with fail
        refine (K5.out.skewC).mono ?_
        rintro e w6 ⟨t6, rfl, k6⟩
        have K6 := Lib.hid k6
        go_wp2_with fail
        refine (K6.out.splitC (by rw [hsz] at hKb; omega)).mono ?_
        rintro e w7 ⟨t7, rfl, k7⟩
        have K7 := Lib.hid k7
        clear k5 k6 k7
        go_wp2_with fail
        go_ret2
        refine ⟨t7, by rw [HB.out]; rfl, ?_⟩
        rw [← HK.out]
        exact K7.out.mono (by rw [hsz]; omega)
end

end Go.Proofs.Ytkemhcokkaanfaa
