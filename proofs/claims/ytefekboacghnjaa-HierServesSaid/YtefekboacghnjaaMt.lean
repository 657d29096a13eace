/-
  Chapter 20: all vruntimes lie near the least one of their queue: settling.
  Chapter 20: all vruntimes lie near the least one of their queue: what the tree's functions keep.
  Chapter 20: all vruntimes lie near the least one of their queue: who is served.
  Chapter 20: all vruntimes lie near the least one of their queue: a piece of work.
  The tree of groups: Flag.
-/
import Derived.Test.YtefekboacghnjaaMs
import Derived.Deep.MidRow

namespace Go.Proofs.Ytefekboacghnjaa
open Go.RowKit Go.Maps

section
variable {c g : Int} {t : Nat} {M M' mn mn' : Int} {S : HS} {e : En} {X : QS}
/-- an entity that sleeps beside a queue -/
structure GOwn (c g : Int) (t : Nat) (mn : Int) (e : En) : Prop where
  wt : 64 ≤ e.wt ∧ e.wt ≤ 4095
  r : e.rem < e.wt
  lo : -65535 ≤ e.v
  hi : e.v ≤ mn + g + 16 * t
theorem GOwn.mono (h : GOwn c g t mn e) (hm : mn ≤ mn') : GOwn c g t mn' e := ⟨h.wt, h.r, h.lo, by have := h.hi; omega⟩
structure NearG (c g : Int) (t : Nat) (M : Int) (x : Gr) : Prop where
  q : NearQ c g t x.q
  led : x.q.led
  mn : x.q.mn ≤ M
structure NearH (c g : Int) (t : Nat) (M : Int) (S : HS) : Prop where
  q : ∀ u x, S.G u = some x → NearG c g t M x
  own : ∀ i x u p, i ≠ 0 → S.G i = some x → x.up = ((u : Nat) : Int) → S.G u = some p → GOwn c g t p.q.mn x.own
theorem NearH.mono (N : NearH c g t M S) (h : M ≤ M') : NearH c g t M' S := ⟨fun u x hx => ⟨(N.q u x hx).q, (N.q u x hx).led, Int.le_trans (N.q u x hx).mn h⟩, N.own⟩
theorem up_ne (T : HTree S) {i : Nat} {x : Gr} (hi : S.G i = some x) : x.up ≠ (i : Int) := by
  by_cases h0 : i = 0
  · subst h0
    obtain ⟨y, e1, e2, _⟩ := T.root
    rw [hi] at e1
    injection e1 with e1
    subst e1
    rw [e2]
    decide
  · obtain ⟨u, p, e1, e2, _⟩ := T.up i x h0 hi
    have := (T.ne h0 hi e1 e2).1
    omega
theorem NearH.put (N : NearH c g t M S) {i : Nat} {x y : Gr} (hi : S.G i = some x) (hne : x.up ≠ (i : Int)) (hup : y.up = x.up) (hM : M ≤ M') (hq : NearG c g t M' y) (hmn : x.q.mn ≤ y.q.mn)
    (ho : i ≠ 0 → ∀ u p, x.up = ((u : Nat) : Int) → S.G u = some p → GOwn c g t p.q.mn y.own) : NearH c g t M' (S.put i (some y)) := by
  refine ⟨fun u z hz => ?_, fun j z u p h0 hj hu hp => ?_⟩
  · by_cases hui : u = i
    · subst hui
      rw [HS.put_same] at hz
      injection hz with hz
      subst hz
      exact hq
    · rw [HS.put_other _ _ hui] at hz
      exact (N.mono hM).q u z hz
  · by_cases hji : j = i
    · subst hji
      rw [HS.put_same] at hj
      injection hj with hj
      subst hj
      have hui : u ≠ j := by rintro rfl; exact hne (hup.symm.trans hu)
      rw [HS.put_other _ _ hui] at hp
      exact ho h0 u p (hup.symm.trans hu) hp
    · rw [HS.put_other _ _ hji] at hj
      by_cases hui : u = i
      · subst hui
        rw [HS.put_same] at hp
        injection hp with hp
        subst hp
        exact (N.own j z u x h0 hj hu hi).mono hmn
      · rw [HS.put_other _ _ hui] at hp
        exact N.own j z u p h0 hj hu hp
/-- who wakes is put -/
theorem NearQ.putG (hT : Terms c g t) (h : NearQ c g t X) (hm : X.mn ≤ 100000000000) (hid : e.id ≤ 1000) (ho : GOwn c g t X.mn e) (hl : X.led) :
    NearQ c g t (putQ X (woken e X.mn c)) ∧ (putQ X (woken e X.mn c)).led ∧ X.mn ≤ (putQ X (woken e X.mn c)).mn ∧ (putQ X (woken e X.mn c)).mn ≤ X.mn + g + 16 * t := by
  have hge := hT.g0
  have h0 := h.mn0
  have hc0 := hT.c0
  have hc1 := hT.c1
  have hg1 := hT.g1
  have ht1 := hT.t1
  have w1 := ho.wt
  have hlo := ho.lo
  have hhi := ho.hi
  have hr := ho.r
  have key : putC X (woken e X.mn c) = 0 → NearQ c g t (X.add (woken e X.mn c)) := fun hc => by
    obtain ⟨k1, k2, k3⟩ := putC_ok (show (woken e X.mn c).id ≤ _ by show e.id ≤ _; omega) ⟨by show _ ≤ max e.v (X.mn - c); omega, by show max e.v (X.mn - c) ≤ _; omega⟩ hc
    have hlen := h.ok.len
    exact h.add hT k1 k2 (by omega) (by show _ ≤ max e.v (X.mn - c); omega) (by show max e.v (X.mn - c) ≤ _; omega) w1
  refine ⟨?_, led_putQ hl, ?_⟩
  · unfold putQ
    split
    · rename_i hc
      exact ((key hc).raise hT).1
    · exact h
  · unfold putQ
    split
    · rename_i hc
      exact ⟨(X.add (woken e X.mn c)).raise_ge, ((key hc).raise hT).2⟩
    · omega
theorem wakeZ_eq (hT : Terms c g t) {own : Int} (m0 : 0 ≤ mn) (m1 : mn ≤ 100000000000) : wakeZ own mn c = max own (mn - c) := by
  have hc0 := hT.c0
  have hc1 := hT.c1
  unfold wakeZ
  rw [hold_id hc0 hc1, satZ_in mn (-c) (by omega) (by omega), Int.sub_eq_add_neg]
theorem step_near (hT : Terms c g t) (I : HInv S) (N : NearH c g t M S) (hcr : S.credit = c) (hM : M ≤ 100000000000) {i u : Nat} {x p : Gr} (h0 : i ≠ 0) (hi : S.G i = some x) (hu : x.up = ((u : Nat) : Int)) (hp : S.G u = some p) (hs : shouldB x ≠ x.on) :
    NearH c g t (M + g + 16 * t) (stepH S i u x p) := by
  have hge := hT.g0
  obtain ⟨hne, _⟩ := I.tree.ne h0 hi hu hp
  have hO := I.own i x h0 hi
  have hid := hO.id
  have hi32 : i < 32 := by
    refine Decidable.byContradiction fun h => ?_
    rw [I.tree.top i (by omega)] at hi
    simp at hi
  have NG := N.q u p hp
  have NX := N.q i x hi
  have GO := N.own i x u p h0 hi hu hp
  have hm := NG.mn
  unfold stepH
  by_cases hsh : shouldB x = true
  · rw [if_pos hsh, hcr, wakeZ_eq hT NG.q.mn0 (by omega)]
    obtain ⟨k1, k2, k3, k4⟩ := NG.q.putG hT (by omega) (e := x.own) (by omega) GO NG.led
    have N1 : NearH c g t (M + g + 16 * t) (S.put u (some { p with q := putQ p.q (woken x.own p.q.mn c) })) :=
      N.put hp (up_ne I.tree hp) rfl (by omega) ⟨k1, k2, by show (putQ p.q _).mn ≤ _; omega⟩ k3 fun hu0 v y hv hy => N.own u p v y hu0 hp hv hy
    refine N1.put (x := x) ((HS.put_other _ _ (Ne.symm hne)).trans hi) (up_ne I.tree hi) rfl (Int.le_refl _) ⟨NX.q, NX.led, by show x.q.mn ≤ _; have := NX.mn; omega⟩ (Int.le_refl _) fun _ v y hv hy => ?_
    have hvu : v = u := by omega
    subst hvu
    rw [HS.put_same] at hy
    injection hy with hy
    subst hy
    have hc1 := hT.c1
    have hc0 := hT.c0
    have hmn0 := NG.q.mn0
    have hlo := GO.lo
    have hhi := GO.hi
    exact ⟨GO.wt, GO.r, by show _ ≤ max x.own.v (p.q.mn - c); omega, by show max x.own.v (p.q.mn - c) ≤ (putQ p.q _).mn + g + 16 * t; omega⟩
  · rw [if_neg hsh]
    have hon : x.on = true := by
      cases h1 : x.on with
      | true => rfl
      | false => rw [h1] at hs; exact absurd (by simpa using hsh) hs
    obtain ⟨e, he, heid⟩ := I.on i x u p h0 hi hu hp hon
    have hget : p.q.get (2 * (i : Int) + 1) = some e := by rw [← heid]; exact (I.qok u p hp).get he
    rw [hget]
    obtain ⟨k1, k2, k3, k4⟩ := NG.q.dropW hT NG.led (2 * (i : Int) + 1)
    have N1 : NearH c g t (M + g + 16 * t) (S.put u (some { p with q := dropQ p.q (2 * (i : Int) + 1) })) :=
      N.put hp (up_ne I.tree hp) rfl (by omega) ⟨k1, k2, by show (dropQ p.q _).mn ≤ _; omega⟩ k3 fun hu0 v y hv hy => N.own u p v y hu0 hp hv hy
    refine N1.put (x := x) ((HS.put_other _ _ (Ne.symm hne)).trans hi) (up_ne I.tree hi) rfl (Int.le_refl _) ⟨NX.q, NX.led, by show x.q.mn ≤ _; have := NX.mn; omega⟩ (Int.le_refl _) fun _ v y hv hy => ?_
    have hvu : v = u := by omega
    subst hvu
    rw [HS.put_same] at hy
    injection hy with hy
    subst hy
    have hc1 := hT.c1
    have hmn0 := NG.q.mn0
    have hlo := NG.q.low e he
    have hhi := NG.q.high e he
    exact ⟨NG.q.wt e he, (NG.q.ok.ents e he).r, by show _ ≤ e.v; omega, by show e.v ≤ (dropQ p.q _).mn + g + 16 * t; omega⟩
end

end Go.Proofs.Ytefekboacghnjaa

namespace Go.Proofs.Ytefekboacghnjaa
open Go.RowKit Go.Maps

/-- no queue's least vruntime falls -/
def MnUp (S S' : HS) : Prop := ∀ u x, S.G u = some x → ∃ x', S'.G u = some x' ∧ x.q.mn ≤ x'.q.mn
theorem MnUp.refl (S : HS) : MnUp S S := fun _ x h => ⟨x, h, Int.le_refl _⟩
theorem MnUp.trans {S S' S'' : HS} (a : MnUp S S') (b : MnUp S' S'') : MnUp S S'' := fun u x h => by
  obtain ⟨x', h1, h2⟩ := a u x h
  obtain ⟨x'', h3, h4⟩ := b u x' h1
  exact ⟨x'', h3, Int.le_trans h2 h4⟩
theorem MnUp.put {S : HS} {i : Nat} {x y : Gr} (hi : S.G i = some x) (h : x.q.mn ≤ y.q.mn) : MnUp S (S.put i (some y)) := fun u z hz => by
  by_cases hu : u = i
  · subst hu
    rw [hi] at hz
    injection hz with hz
    subst hz
    exact ⟨y, HS.put_same _ _ _, h⟩
  · exact ⟨z, (HS.put_other _ _ hu).trans hz, Int.le_refl _⟩
section
variable {c g : Int} {t : Nat} {M M' : Int} {S : HS} {X : QS}
theorem putQ_mn (X : QS) (e : En) : X.mn ≤ (putQ X e).mn := by
  unfold putQ
  split
  · exact (X.add e).raise_ge
  · exact Int.le_refl _
theorem dropQ_mn (X : QS) (k : Int) : X.mn ≤ (dropQ X k).mn := by
  unfold dropQ
  split
  · exact (X.drop k).raise_ge
  · exact Int.le_refl _
theorem step_up {i u : Nat} {x p : Gr} (hi : S.G i = some x) (hp : S.G u = some p) (hne : u ≠ i) : MnUp S (stepH S i u x p) := by
  unfold stepH
  split
  · exact (MnUp.put (y := { p with q := putQ p.q _ }) hp (putQ_mn _ _)).trans (MnUp.put (x := x) ((HS.put_other _ _ (Ne.symm hne)).trans hi) (Int.le_refl _))
  · exact (MnUp.put (y := { p with q := dropQ p.q _ }) hp (dropQ_mn _ _)).trans (MnUp.put (x := x) ((HS.put_other _ _ (Ne.symm hne)).trans hi) (Int.le_refl _))
theorem step_credit (S : HS) (i u : Nat) (x p : Gr) : (stepH S i u x p).credit = S.credit := by
  unfold stepH
  split <;> rfl
theorem settle_near (hT : Terms c g t) : ∀ (n : Nat) (S : HS) (i : Nat) (x : Gr) (M : Int), S.G i = some x → x.deep < n → HInv S → HSetX S i → NearH c g t M S → S.credit = c → M + (n : Int) * (g + 16 * t) ≤ 100000000000 →
    NearH c g t (M + (n : Int) * (g + 16 * t)) (settleH n S i) ∧ MnUp S (settleH n S i)
  | 0, _, _, _, _, _, h, _, _, _, _, _ => absurd h (Nat.not_lt_zero _)
  | n + 1, S, i, x, M, hi, hd, I, hS, N, hcr, hM => by
    have hge := hT.g0
    obtain ⟨D, hD⟩ : ∃ D, D = g + 16 * (t : Int) := ⟨_, rfl⟩
    have hD0 : 0 ≤ D := by omega
    have hmul : ((n + 1 : Nat) : Int) * D = (n : Int) * D + D := by rw [Int.natCast_add, Int.add_mul]; omega
    have hnD : 0 ≤ (n : Int) * D := Int.mul_nonneg (Int.natCast_nonneg _) hD0
    rw [← hD, hmul] at hM
    rw [← hD, hmul]
    have N' : NearH c g t (M + ((n : Int) * D + D)) S := N.mono (by omega)
    unfold settleH
    rw [hi]
    dsimp only
    by_cases hup : x.up = -1
    · rw [if_pos hup]; exact ⟨N', MnUp.refl S⟩
    · rw [if_neg hup]
      have h0 : i ≠ 0 := by
        rintro rfl
        obtain ⟨g, e1, e2, _⟩ := I.tree.root
        rw [hi] at e1
        injection e1 with e1
        subst e1
        exact hup e2
      by_cases hs : shouldB x = x.on
      · rw [if_pos hs]; exact ⟨N', MnUp.refl S⟩
      · rw [if_neg hs]
        obtain ⟨u, p, e1, e2, e3⟩ := I.tree.up i x h0 hi
        have eu : x.up.toNat = u := by omega
        rw [eu, e2]
        dsimp only
        obtain ⟨hne, _⟩ := I.tree.ne h0 hi e1 e2
        have I2 := step_inv I h0 hi e1 e2 hs
        have S2 := step_set hS (x := x) e2
        have hG : ∃ p2, (stepH S i u x p).G u = some p2 ∧ p2.deep = p.deep := by
          unfold stepH
          split
          · exact ⟨_, (HS.put_other _ _ hne).trans (HS.put_same _ _ _), rfl⟩
          · exact ⟨_, (HS.put_other _ _ hne).trans (HS.put_same _ _ _), rfl⟩
        obtain ⟨p2, g1, g2⟩ := hG
        have N2 := step_near hT I N hcr (by omega) h0 hi e1 e2 hs
        have hMD : M + g + 16 * (t : Int) = M + D := by omega
        rw [hMD] at N2
        have R := settle_near hT n _ u p2 (M + D) g1 (by omega) I2 S2 N2 ((step_credit S i u x p).trans hcr) (by rw [← hD]; omega)
        rw [← hD] at R
        exact ⟨R.1.mono (by omega), (step_up hi e2 hne).trans R.2⟩
/-- a task is put, that wakes -/
theorem puth_near (hT : Terms c g t) (H : HGood S) (N : NearH c g t M S) (hcr : S.credit = c) (hM : M + 10 * (g + 16 * t) ≤ 100000000000) {u : Nat} {x : Gr} (hx : S.G u = some x) {e : En} {k : Nat} (hk : k < 64) (hid : e.id = 2 * (k : Int)) (ho : GOwn c g t x.q.mn e) :
    NearH c g t (M + 10 * (g + 16 * t)) (putHS S u x (woken e x.q.mn c)) ∧ MnUp S (putHS S u x (woken e x.q.mn c)) := by
  have hge := hT.g0
  have NX := N.q u x hx
  have hmx := NX.mn
  have hd := H.inv.tree.deep u x hx
  have hm0 := NX.q.mn0
  have hlo := ho.lo
  have hhi := ho.hi
  have hc1 := hT.c1
  have hc0 := hT.c0
  have hg1 := hT.g1
  have ht1 := hT.t1
  obtain ⟨k1, k2, k3, k4⟩ := NX.q.putG hT (by omega) (e := e) (by omega) ho NX.led
  unfold putHS
  split
  · rename_i hc
    have hL := putQ_L hc
    have N1 : NearH c g t (M + (g + 16 * t)) (S.put u (some { x with q := putQ x.q (woken e x.q.mn c) })) :=
      N.put hx (up_ne H.inv.tree hx) rfl (by omega) ⟨k1, k2, by show (putQ x.q _).mn ≤ _; omega⟩ k3 fun hu0 v y hv hy => N.own u x v y hu0 hx hv hy
    have I1 : HInv (S.put u (some { x with q := putQ x.q (woken e x.q.mn c) })) := H.inv.queue hx k1.ok (fun e' he' => by
      rw [hL, List.mem_append] at he'
      rcases he' with he' | he'
      · exact .inl ⟨e', he', rfl⟩
      · rw [List.mem_singleton] at he'
        subst he'
        exact .inr ⟨k, hk, hid⟩) (fun e' he' _ => by
      rw [hL]
      exact ⟨e', List.mem_append_left _ he', rfl⟩)
    have R := settle_near hT 9 _ u { x with q := putQ x.q (woken e x.q.mn c) } (M + (g + 16 * t)) (HS.put_same _ _ _) (by show x.deep < 9; omega) I1 (H.set.queue hx) N1 hcr (by omega)
    exact ⟨R.1.mono (by omega), (MnUp.put hx k3).trans R.2⟩
  · exact ⟨N.mono (by omega), MnUp.refl S⟩
theorem droph_near (hT : Terms c g t) (H : HGood S) (N : NearH c g t M S) (hcr : S.credit = c) (hM : M + 10 * (g + 16 * t) ≤ 100000000000) {u : Nat} {x : Gr} (hx : S.G u = some x) (k : Int) :
    NearH c g t (M + 10 * (g + 16 * t)) (dropHS S u x (2 * k)) ∧ MnUp S (dropHS S u x (2 * k)) := by
  have hge := hT.g0
  have NX := N.q u x hx
  have hmx := NX.mn
  have hd := H.inv.tree.deep u x hx
  obtain ⟨k1, k2, k3, k4⟩ := NX.q.dropW hT NX.led (2 * k)
  unfold dropHS
  split
  · exact ⟨N.mono (by omega), MnUp.refl S⟩
  · have N1 : NearH c g t (M + (g + 16 * t)) (S.put u (some { x with q := dropQ x.q (2 * k) })) :=
      N.put hx (up_ne H.inv.tree hx) rfl (by omega) ⟨k1, k2, by show (dropQ x.q _).mn ≤ _; omega⟩ k3 fun hu0 v y hv hy => N.own u x v y hu0 hx hv hy
    have I1 : HInv (S.put u (some { x with q := dropQ x.q (2 * k) })) := H.inv.queue hx k1.ok (fun e' he' => by
      rw [dropQ_L] at he'
      exact .inl ⟨e', (lessL_mem.1 he').1, rfl⟩) (fun e' he' ho => by
      rw [dropQ_L]
      exact ⟨e', lessL_mem.2 ⟨he', by omega⟩, rfl⟩)
    have R := settle_near hT 9 _ u { x with q := dropQ x.q (2 * k) } (M + (g + 16 * t)) (HS.put_same _ _ _) (by show x.deep < 9; omega) I1 (H.set.queue hx) N1 hcr (by omega)
    exact ⟨R.1.mono (by omega), (MnUp.put hx k3).trans R.2⟩
theorem stoph_near (hT : Terms c g t) (H : HGood S) (N : NearH c g t M S) (hcr : S.credit = c) (hM : M + 10 * (g + 16 * t) ≤ 100000000000) {u : Nat} {x : Gr} (h0 : u ≠ 0) (hx : S.G u = some x) (is : Bool) :
    NearH c g t (M + 10 * (g + 16 * t)) (stopHS S u x is) ∧ MnUp S (stopHS S u x is) := by
  have hge := hT.g0
  have NX := N.q u x hx
  have hd := H.inv.tree.deep u x hx
  unfold stopHS
  have N1 : NearH c g t M (S.put u (some { x with stopped := is })) :=
    N.put hx (up_ne H.inv.tree hx) rfl (Int.le_refl _) ⟨NX.q, NX.led, NX.mn⟩ (Int.le_refl _) fun hu0 v y hv hy => N.own u x v y hu0 hx hv hy
  have R := settle_near hT 9 _ u { x with stopped := is } M (HS.put_same _ _ _) (by show x.deep < 9; omega) (H.inv.group hx rfl rfl rfl rfl fun _ => H.inv.own u x h0 hx) (H.set.group _) N1 hcr (by omega)
  exact ⟨R.1.mono (by omega), (MnUp.put (y := { x with stopped := is }) hx (Int.le_refl _)).trans R.2⟩
theorem weighh_near (H : HGood S) (N : NearH c g t M S) {u : Nat} {x : Gr} (h0 : u ≠ 0) (hx : S.G u = some x) {w : Nat} (h1 : 64 ≤ w) (h2 : w ≤ 4095) :
    NearH c g t M (weighHS S u x w) ∧ MnUp S (weighHS S u x w) := by
  unfold weighHS
  split
  · split
    · exact ⟨N, MnUp.refl S⟩
    · rename_i p hp
      have NP := N.q _ p hp
      obtain ⟨k1, k2, k3⟩ := NP.q.weigh NP.led (2 * (u : Int) + 1) h1 h2
      exact ⟨N.put hp (up_ne H.inv.tree hp) rfl (Int.le_refl _) ⟨k1, k2, by show (weighQ p.q _ _).mn ≤ _; rw [k3]; exact NP.mn⟩ (by show _ ≤ (weighQ p.q _ _).mn; rw [k3]; exact Int.le_refl _) fun hu0 v y hv hy => N.own _ p v y hu0 hp hv hy,
        MnUp.put hp (by show _ ≤ (weighQ p.q _ _).mn; rw [k3]; exact Int.le_refl _)⟩
  · have NX := N.q u x hx
    have hO := H.inv.own u x h0 hx
    refine ⟨N.put hx (up_ne H.inv.tree hx) rfl (Int.le_refl _) ⟨NX.q, NX.led, NX.mn⟩ (Int.le_refl _) fun hu0 v y hv hy => ?_, MnUp.put hx (Int.le_refl _)⟩
    have G := N.own u x v y hu0 hx hv hy
    have hi32 : u < 32 := by
      refine Decidable.byContradiction fun h => ?_
      rw [H.inv.tree.top u (by omega)] at hx
      simp at hx
    have hid := hO.id
    have ok : x.own.ok := ⟨by omega, by omega, hO.w1, hO.w2, hO.v1, hO.v2, hO.r⟩
    have W := weighed_ok ok (w := w) (by omega) (by omega)
    exact ⟨⟨h1, h2⟩, W.r, G.lo, G.hi⟩
end

end Go.Proofs.Ytefekboacghnjaa

namespace Go.Proofs.Ytefekboacghnjaa
open Go.RowKit Go.Maps

section
variable {c g : Int} {t : Nat} {M M' : Int} {S : HS} {X : QS}
/-- the current one is no further ahead than the granularity -/
def CurLow (g : Int) (q : QS) : Prop := ∀ e, e ∈ q.L → e.id = q.cur → e.v ≤ q.mn + g
/-- so are all on the way down -/
def PathLow (g : Int) : Nat → HS → Nat → Prop
  | 0, _, _ => True
  | n + 1, S, u => ∀ x, S.G u = some x → CurLow g x.q ∧ (¬(x.q.cur < 0 ∨ x.q.cur % 2 = 0) → PathLow g n S (x.q.cur / 2).toNat)
/-- the next one on the way stands below -/
theorem HGood.next (H : HGood S) {u : Nat} {x : Gr} (hx : S.G u = some x) (hc : ¬(x.q.cur < 0 ∨ x.q.cur % 2 = 0)) : ∃ (k : Nat) (y : Gr), (x.q.cur / 2).toNat = k ∧ k ≠ 0 ∧ k ≠ u ∧ S.G k = some y ∧ y.deep = x.deep + 1 := by
  rcases (H.inv.qok u x hx).cur with h | h
  · exact absurd (.inl (by omega)) hc
  · rcases H.chosen hx h with ⟨k, _, hk⟩ | ⟨k, y, h1, h2, h3, h4, h5, h6, h7, h8⟩
    · exact absurd (.inr (by omega)) hc
    · exact ⟨k, y, by omega, h2, h4, h5, h8⟩
/-- what lies above the way does not matter to it -/
theorem path_other (H : HGood S) {u : Nat} {x : Gr} (hx : S.G u = some x) (y : Gr) : ∀ (n k : Nat) (z : Gr), S.G k = some z → x.deep < z.deep → PathLow g n S k → PathLow g n (S.put u (some y)) k
  | 0, _, _, _, _, _ => trivial
  | n + 1, k, z, hz, hd, P => by
    have hku : k ≠ u := by
      rintro rfl
      rw [hx] at hz
      injection hz with hz
      subst hz
      omega
    intro z' hz'
    rw [HS.put_other _ _ hku, hz] at hz'
    injection hz' with hz'
    subst hz'
    obtain ⟨p1, p2⟩ := P z hz
    refine ⟨p1, fun hc => ?_⟩
    obtain ⟨k', y', e1, _, _, e4, e5⟩ := H.next hz hc
    have p3 := p2 hc
    rw [e1] at p3 ⊢
    exact path_other H hx y n k' y' e4 (by omega) p3
theorem charge_near (hT : Terms c g t) {ns : Nat} (hns : ns ≤ t) : ∀ (n : Nat) (S : HS) (u : Nat) (x : Gr) (M : Int), S.G u = some x → HGood S → NearH c g t M S → PathLow g n S u → M + (n : Int) * (g + 16 * t) ≤ 100000000000 →
    NearH c g t (M + (n : Int) * (g + 16 * t)) (chargeF ns n S u) ∧ MnUp S (chargeF ns n S u)
  | 0, S, _, _, M, _, _, N, _, _ => by
    have e : M + ((0 : Nat) : Int) * (g + 16 * t) = M := by simp
    rw [e]
    exact ⟨N, MnUp.refl S⟩
  | n + 1, S, u, x, M, hx, H, N, P, hM => by
    have hge := hT.g0
    obtain ⟨D, hD⟩ : ∃ D, D = g + 16 * (t : Int) := ⟨_, rfl⟩
    have hD0 : 0 ≤ D := by omega
    have hmul : ((n + 1 : Nat) : Int) * D = (n : Int) * D + D := by rw [Int.natCast_add, Int.add_mul]; omega
    have hnD : 0 ≤ (n : Int) * D := Int.mul_nonneg (Int.natCast_nonneg _) hD0
    rw [← hD, hmul] at hM
    rw [← hD, hmul]
    have NX := N.q u x hx
    have hmx := NX.mn
    obtain ⟨p1, p2⟩ := P x hx
    have key : NearQ c g t (chargeQ x.q ns) ∧ (chargeQ x.q ns).led ∧ x.q.mn ≤ (chargeQ x.q ns).mn ∧ (chargeQ x.q ns).mn ≤ x.q.mn + D := by
      rcases NX.q.ok.cur with h | ⟨e, he, hid⟩
      · have e1 : chargeQ x.q ns = x.q := by
          unfold chargeQ
          have : x.q.get x.q.cur = none := by
            cases hg : x.q.get x.q.cur with
            | none => rfl
            | some y =>
              obtain ⟨hy, hyi⟩ := QS.get_some hg
              have := (NX.q.ok.ents y hy).i1
              omega
          rw [this]
        rw [e1]
        exact ⟨NX.q, NX.led, Int.le_refl _, by omega⟩
      · obtain ⟨k1, k2, k3⟩ := NX.q.charge hT (by omega) he hid (p1 e he hid) hns
        refine ⟨k2, ?_, ?_, by omega⟩
        · rw [k1]
          exact QS.raise_led _
        · rw [k1]
          exact (x.q.set (charged e ns)).raise_ge
    obtain ⟨k1, k2, k3, k4⟩ := key
    have N1 : NearH c g t (M + D) (S.put u (some { x with q := chargeQ x.q ns })) :=
      N.put hx (up_ne H.inv.tree hx) rfl (by omega) ⟨k1, k2, by show (chargeQ x.q ns).mn ≤ _; omega⟩ k3 fun hu0 v y hv hy => N.own u x v y hu0 hx hv hy
    have U1 : MnUp S (S.put u (some { x with q := chargeQ x.q ns })) := MnUp.put hx k3
    unfold chargeF
    rw [hx]
    dsimp only
    by_cases hc : x.q.cur < 0 ∨ x.q.cur % 2 = 0
    · rw [if_pos hc]
      exact ⟨N1.mono (by omega), U1⟩
    · rw [if_neg hc]
      obtain ⟨k, y, e1, _, e3, e4, e5⟩ := H.next hx hc
      have p3 := p2 hc
      rw [e1] at p3 ⊢
      have H1 := H.same hx (chargeQ_ok (H.inv.qok u x hx) ns) (chargeQ_ids x.q ns)
      have P1 := path_other H hx { x with q := chargeQ x.q ns } n k y e4 (by omega) p3
      have R := charge_near hT hns n _ k y (M + D) ((HS.put_other _ _ e3).trans e4) H1 N1 P1 (by rw [← hD]; omega)
      rw [← hD] at R
      exact ⟨R.1.mono (by omega), U1.trans R.2⟩
theorem pick_near : ∀ (n : Nat) (S : HS) (u : Nat), HTree S → NearH c g t M S → NearH c g t M (wayF pickN n S u).1 ∧ MnUp S (wayF pickN n S u).1
  | 0, S, _, _, N => ⟨N, MnUp.refl S⟩
  | n + 1, S, u, T, N => by
    have h1 : NearH c g t M (pickN S u).1 ∧ MnUp S (pickN S u).1 ∧ HTree (pickN S u).1 := by
      unfold pickN
      split
      · exact ⟨N, MnUp.refl S, T⟩
      · rename_i x hx
        have NX := N.q u x hx
        refine ⟨N.put hx (up_ne T hx) rfl (Int.le_refl _) ⟨NX.q.pick S.gran, NX.led, NX.mn⟩ (Int.le_refl _) fun hu0 v y hv hy => N.own u x v y hu0 hx hv hy, MnUp.put hx (Int.le_refl _), ?_⟩
        exact T.put hx rfl rfl
    rw [wayF_succ]
    split
    · exact ⟨h1.1, h1.2.1⟩
    · have R := pick_near n (pickN S u).1 ((pickN S u).2 / 2).toNat h1.2.2 h1.1
      exact ⟨R.1, h1.2.1.trans R.2⟩
/-- behind Pick all on the way have been picked -/
theorem pick_path (hT : Terms c g t) : ∀ (n : Nat) (S : HS) (u : Nat) (x : Gr), HGood S → NearH c g t M S → S.gran = g → S.G u = some x → x.deep + n = 9 → PathLow g n (wayF pickN n S u).1 u
  | 0, _, _, _, _, _, _, _, _ => trivial
  | n + 1, S, u, x, H, N, hgr, hx, hd => by
    have NX := N.q u x hx
    have hok := H.inv.qok u x hx
    have H1 := H.pick1 hx
    have low : CurLow g (pickQ x.q S.gran) := fun e he hid => by
      rw [hgr] at hid
      exact pick_cur hok NX.led hT.g0 hT.g1 he hid
    by_cases hc : x.q.pickI S.gran < 0 ∨ x.q.pickI S.gran % 2 = 0
    · rw [wayF_ends (pickN_eq hx) hc]
      intro z hz
      rw [HS.put_same] at hz
      injection hz with hz
      subst hz
      exact ⟨low, fun h => absurd hc h⟩
    · rw [wayF_goes (pickN_eq hx) hc]
      have hx1 : (S.put u (some { x with q := pickQ x.q S.gran })).G u = some { x with q := pickQ x.q S.gran } := HS.put_same _ _ _
      obtain ⟨k, y, e1, e2, e3, e4, e5⟩ := H1.next hx1 hc
      have e1' : (x.q.pickI S.gran / 2).toNat = k := e1
      rw [e1']
      have N1 : NearH c g t M (S.put u (some { x with q := pickQ x.q S.gran })) :=
        N.put hx (up_ne H.inv.tree hx) rfl (Int.le_refl _) ⟨NX.q.pick S.gran, NX.led, NX.mn⟩ (Int.le_refl _) fun hu0 v y hv hy => N.own u x v y hu0 hx hv hy
      have e5' : y.deep = x.deep + 1 := e5
      have W := (pick_way n _ k y H1 e4 (by omega)).2.2.2 u _ hx1 (Ne.symm e3) (by show x.deep ≤ y.deep; omega)
      intro z hz
      rw [W] at hz
      injection hz with hz
      subst hz
      refine ⟨low, fun _ => ?_⟩
      have e6 : ((pickQ x.q S.gran).cur / 2).toNat = k := e1
      show PathLow g n _ ((pickQ x.q S.gran).cur / 2).toNat
      rw [e6]
      exact pick_path hT n _ k y H1 N1 hgr e4 (by omega)
end

end Go.Proofs.Ytefekboacghnjaa

namespace Go.Proofs.Ytefekboacghnjaa
open Go.RowKit Go.Maps

section
variable {c g : Int} {t : Nat} {M M' : Int} {S : HS} {X : FSt}
structure NearF (c g : Int) (t : Nat) (M : Int) (X : FSt) : Prop where
  h : NearH c g t M X.S
  own : ∀ n : Nat, n < 8 → ∀ x, X.S.G (homeN n) = some x → GOwn c g t x.q.mn (X.own n)
  path : PathLow g 9 X.S 0
/-- what sleeps beside queues that rise -/
theorem own_up (O : FOk c g X) (N : NearF c g t M X) (U : MnUp X.S S) : ∀ n : Nat, n < 8 → ∀ x, S.G (homeN n) = some x → GOwn c g t x.q.mn (X.own n) := fun n hn x hx => by
  have h1 := O.at_ (home_lt n)
  obtain ⟨x', h2, h3⟩ := U _ _ h1
  rw [hx] at h2
  injection h2 with h2
  subst h2
  exact (N.own n hn _ h1).mono h3
theorem yield_near (hT : Terms c g t) (O : FOk c g X) (N : NearF c g t M X) : NearH c g t M (yieldH 9 X.S) ∧ MnUp X.S (yieldH 9 X.S) ∧ PathLow g 9 (yieldH 9 X.S) 0 := by
  have pk : ∀ S : HS, HGood S → NearH c g t M S → S.gran = g → NearH c g t M (pickH 9 S) ∧ MnUp S (pickH 9 S) ∧ PathLow g 9 (pickH 9 S) 0 := fun S H NS hg => by
    obtain ⟨r, e1, _, e3⟩ := H.inv.tree.root
    obtain ⟨k1, k2⟩ := pick_near 9 S 0 H.inv.tree NS
    exact ⟨k1, k2, pick_path hT 9 S 0 r H NS hg e1 (by omega)⟩
  unfold yieldH
  split
  · exact pk _ O.good N.h O.gr
  · split
    · exact ⟨N.h, MnUp.refl _, N.path⟩
    · rename_i x hx
      have NX := N.h.q _ x hx
      have N1 : NearH c g t M (X.S.put (lastG 9 X.S 0) (some { x with q := yieldQ x.q X.S.gran })) :=
        N.h.put hx (up_ne O.good.inv.tree hx) rfl (Int.le_refl _) ⟨NX.q.yield X.S.gran, NX.led, NX.mn⟩ (Int.le_refl _) fun hu0 v y hv hy => N.h.own _ x v y hu0 hx hv hy
      obtain ⟨k1, k2, k3⟩ := pk _ (yield_put O.good hx) N1 O.gr
      exact ⟨k1, (MnUp.put (y := { x with q := yieldQ x.q X.S.gran }) hx (Int.le_refl _)).trans k2, k3⟩
theorem low_eq (hT : Terms c g t) {mn : Int} (m0 : 0 ≤ mn) (m1 : mn ≤ 100000000000) : lowZ mn c = mn - c := by
  have hc0 := hT.c0
  have hc1 := hT.c1
  unfold lowZ
  rw [IntKind.wrap_i64]
  omega
theorem wakef_near (hT : Terms c g t) (O : FOk c g X) (N : NearF c g t M X) (hM : M + 10 * (g + 16 * t) ≤ 100000000000) {n : Nat} (hn : n < 8) :
    NearH c g t (M + 10 * (g + 16 * t)) (wakeF c X n).S ∧ ∀ m : Nat, m < 8 → ∀ x, (wakeF c X n).S.G (homeN m) = some x → GOwn c g t x.q.mn ((wakeF c X n).own m) := by
  have hge := hT.g0
  have hgr := O.at_ (home_lt n)
  have NX := N.h.q _ _ hgr
  have hmx := NX.mn
  have hm0 := NX.q.mn0
  have hT' := O.own n hn
  unfold wakeF
  cases hh : X.here n with
  | true =>
    rw [if_pos rfl]
    obtain ⟨e, he, hid⟩ := (O.here n hn _ hgr).1 hh
    have hget : (grOf X.S (homeN n)).q.get (2 * (n : Int)) = some e := by
      rw [← hid]
      exact (O.good.inv.qok _ _ hgr).get he
    rw [hget]
    dsimp only
    obtain ⟨k1, k2⟩ := droph_near hT O.good N.h O.cr hM hgr (n : Int)
    refine ⟨k1, fun m hm x hx => ?_⟩
    unfold updO2
    by_cases hmn : m = n
    · subst hmn
      rw [if_pos rfl]
      obtain ⟨x', h2, h3⟩ := k2 _ _ hgr
      rw [hx] at h2
      injection h2 with h2
      subst h2
      have hlo := NX.q.low e he
      have hhi := NX.q.high e he
      have hc1 := hT.c1
      exact ⟨NX.q.wt e he, (NX.q.ok.ents e he).r, by show _ ≤ e.v; omega, by show e.v ≤ _; omega⟩
    · rw [if_neg hmn]
      exact own_up (X := X) O N k2 m hm x hx
  | false =>
    rw [if_neg (by decide)]
    dsimp only
    have GO := N.own n hn _ hgr
    have eq : dblE (awakened (X.own n) (grOf X.S (homeN n)).q.mn c) = woken (dblE (X.own n)) (grOf X.S (homeN n)).q.mn c := by
      unfold awakened woken dblE
      rw [low_eq hT hm0 (by omega)]
    rw [eq]
    obtain ⟨k1, k2⟩ := puth_near hT O.good N.h O.cr hM hgr (e := dblE (X.own n)) (k := n) (by omega) (by show 2 * (X.own n).id = _; rw [hT'.id]) ⟨GO.wt, GO.r, GO.lo, GO.hi⟩
    exact ⟨k1, own_up (X := X) O N k2⟩
theorem work0_near (hT : Terms c g t) (O : FOk c g X) (N : NearF c g t M X) (hM : M + 10 * (g + 16 * t) ≤ 100000000000) (x : FW) :
    NearH c g t (M + 10 * (g + 16 * t)) (workF0 c t X x).S ∧ ∀ m : Nat, m < 8 → ∀ y, (workF0 c t X x).S.G (homeN m) = some y → GOwn c g t y.q.mn ((workF0 c t X x).own m) := by
  have hge := hT.g0
  have hgr := O.at_ (gOf_lt x.n8)
  unfold workF0
  split
  · exact wakef_near hT O N hM x.n8_lt
  · split
    · obtain ⟨k1, k2⟩ := stoph_near hT O.good N.h O.cr hM (gOf_ne x.n8) hgr x.is
      exact ⟨k1, own_up (X := X) O N k2⟩
    · split
      · obtain ⟨k1, k2⟩ := weighh_near (M := M) (c := c) (g := g) (t := t) O.good N.h (gOf_ne x.n8) hgr (w := 64 + x.wt % 4032) (by omega) (by omega)
        exact ⟨k1.mono (by omega), own_up (X := X) O N k2⟩
      · have key : ∃ Y : HS, Y = (if x.is then yieldH 9 X.S else X.S) ∧ HGood Y ∧ NearH c g t M Y ∧ MnUp X.S Y ∧ PathLow g 9 Y 0 := by
          refine ⟨_, rfl, ?_⟩
          by_cases hi : x.is = true
          · rw [if_pos hi]
            obtain ⟨k1, k2, k3⟩ := yield_near hT O N
            exact ⟨yield_good O.good, k1, k2, k3⟩
          · rw [if_neg hi]
            exact ⟨O.good, N.h, MnUp.refl _, N.path⟩
        obtain ⟨Y, hY, H, NY, U, P⟩ := key
        rw [← hY]
        have hns : x.ns % (t + 1) ≤ t := Nat.le_of_lt_succ (Nat.mod_lt _ (by omega))
        have hc : NearH c g t (M + 10 * (g + 16 * t)) (chargeH (x.ns % (t + 1)) Y) ∧ MnUp Y (chargeH (x.ns % (t + 1)) Y) := by
          unfold chargeH
          split
          · exact ⟨NY.mono (by omega), MnUp.refl _⟩
          · obtain ⟨r, e1, _, e3⟩ := H.inv.tree.root
            obtain ⟨k1, k2⟩ := charge_near hT hns 9 Y 0 r M e1 H NY P (by omega)
            exact ⟨k1.mono (by omega), k2⟩
        exact ⟨hc.1, own_up (X := X) O N (U.trans hc.2)⟩
theorem NearF.work (hT : Terms c g t) (O : FOk c g X) (N : NearF c g t M X) (hM : M + 10 * (g + 16 * t) ≤ 100000000000) (x : FW) : NearF c g t (M + 10 * (g + 16 * t)) (workF c t X x) := by
  obtain ⟨k1, k2⟩ := work0_near hT O N hM x
  have O0 := O.work0 t x
  obtain ⟨r, e1, _, e3⟩ := O0.good.inv.tree.root
  obtain ⟨p1, p2⟩ := pick_near 9 _ 0 O0.good.inv.tree k1
  refine ⟨p1, fun n hn y hy => ?_, pick_path hT 9 _ 0 r O0.good k1 O0.gr e1 (by omega)⟩
  have h1 := O0.at_ (home_lt n)
  obtain ⟨x', h2, h3⟩ := p2 _ _ h1
  have hy' : (wayF pickN 9 (workF0 c t X x).S 0).1.G (homeN n) = some y := hy
  rw [hy'] at h2
  injection h2 with h2
  subst h2
  exact (k2 n hn _ h1).mono h3
theorem links_own (c g : Int) : ∀ (k i : Nat) (x : Gr), i ≠ 0 → (linksF c g k).G i = some x → x.own.wt = 1024 ∧ x.own.rem = 0 ∧ x.own.v = 0
  | 0, i, x, h0, hx => by
    have : (if i = 0 then _ else none) = some x := hx
    rw [if_neg h0] at this
    simp at this
  | k + 1, i, x, h0, hx => by
    by_cases hi : i = k + 1
    · subst hi
      have h1 : ((linksF c g k).put (k + 1) (some (linkG (k + 1) (parN (k + 1)) (grOf (linksF c g k) (parN (k + 1))).deep))).G (k + 1) = some x := hx
      rw [HS.put_same] at h1
      injection h1 with h1
      subst h1
      exact ⟨rfl, rfl, rfl⟩
    · have h1 : ((linksF c g k).put (k + 1) (some (linkG (k + 1) (parN (k + 1)) (grOf (linksF c g k) (parN (k + 1))).deep))).G i = some x := hx
      rw [HS.put_other _ _ hi] at h1
      exact links_own c g k i x h0 h1
theorem start_near (hT : Terms c g t) : NearF c g t 0 (startF c g) := by
  have hg0 := hT.g0
  have L := links_ok c g 5 (Nat.le_refl _)
  have emp : ∀ i x, (startF c g).S.G i = some x → x.q = emptyQ := fun i x hx => by
    by_cases hi : i ≤ 5
    · obtain ⟨y, hy, _, _, hq⟩ := L.le i hi
      have : x = y := Option.some.inj (hx.symm.trans hy)
      rw [this, hq]
    · have := L.gt i (by omega)
      have h2 := hx.symm.trans this
      exact absurd h2 (by simp)
  have nq : NearQ c g t emptyQ := ⟨⟨fun e he => absurd he (by simp [emptyQ]), by simp [emptyQ], by simp [emptyQ], .inl rfl, by decide, by decide⟩, rfl, fun e he => absurd he (by simp [emptyQ]), fun e he => absurd he (by simp [emptyQ]), fun e he => absurd he (by simp [emptyQ]), Int.le_refl _⟩
  have lq : emptyQ.led := fun k h => by simp [emptyQ, ksOf] at h
  refine ⟨⟨fun u x hx => ?_, fun i x u p h0 hx hu hp => ?_⟩, fun n hn x hx => ?_, fun x hx => ?_⟩
  · have := emp u x hx
    exact ⟨by rw [this]; exact nq, by rw [this]; exact lq, by rw [this]; exact Int.le_refl _⟩
  · obtain ⟨w1, w2, w3⟩ := links_own c g 5 i x h0 hx
    have hm : p.q.mn = 0 := by rw [emp u p hp]; rfl
    exact ⟨by omega, by omega, by omega, by omega⟩
  · have hm : x.q.mn = 0 := by rw [emp _ x hx]; rfl
    rw [hm]
    exact ⟨⟨by show 64 ≤ 1024; decide, by show 1024 ≤ 4095; decide⟩, by show 0 < 1024; decide, by show -65535 ≤ (0 : Int); decide, by show (0 : Int) ≤ 0 + g + 16 * t; omega⟩
  · have := emp 0 x hx
    rw [this]
    exact ⟨fun e he => absurd he (by simp [emptyQ]), fun h => absurd (.inl (by decide)) h⟩
end

end Go.Proofs.Ytefekboacghnjaa

namespace Go.Proofs.Ytefekboacghnjaa
open Go.RowKit Go.Maps

section
variable {w : World} {h : Nat} {gb qb : Nat → Nat} {Fq : Nat → List Nat} {S : HS} {K : Int}
set_option maxRecDepth 100000 in
theorem run_index32 (cs : List Value) {i : Nat} {v : Value} (hlt : i < 32) (hv : cs[i]? = some v) (w : World) : Sem.run Try.prog (Instr.index 117 (.agg cs.toArray) (.int .i64 (i : Int))) w = .ok v w := by
  have h3 : (sizeOf 116).run Try.prog w = .ok 1 w := by kernel_rfl
  simp [Instr.index, asIntOf, Sem.run_bind, run_underlying Try.underlying117 w, part, h3, hlt, hv]
set_option maxRecDepth 100000 in
set_option maxHeartbeats 8000000 in
theorem hflag_some (m : HMem w h gb qb Fq S K) (hov : ∀ i x, S.G i = some x → x.q.over = false) :
    Calls Try.prog 43 #[.pointer (some ⟨h, 0, none⟩)] w fun e w' => e = .returned (.bool false) ∧ w = w' := by
  obtain ⟨cs, hcs⟩ : ∃ cs : List Value, cs = (List.range 32).map (gpV gb S) := ⟨_, rfl⟩
  have hlen : cs.length = 32 := by rw [hcs]; simp
  have hat : ∀ i, i < 32 → cs[i]? = some (gpV gb S i) := fun i hi => by rw [hcs]; simp [hi]
  have hrg : w.rangeAt h 2 cs := fun j v hv => by
    have hj : j < 32 := by
      rw [← hlen]
      exact (List.getElem?_eq_some_iff.1 hv).1
    rw [hat j hj] at hv
    rw [Blk.cell m.blk, hcells_at gb S hj]
    exact hv
  have hinf : (Try.prog.info? 117).map (·.size) = some cs.length := by rw [hlen]; rfl
  have HL := Lib.hid (And.intro hrg hinf)
  have HC := Lib.hid (And.intro hat (And.intro hov m))
  clear hrg hinf hov m hcs hlen hat
  go_enter Try.func43, Try.ntmps43
  go_wp2_with (refine wpList_load_mid rfl 117 (.tmp 9) rfl h 2 rfl cs _ HL.out.1 Try.underlying117 rfl HL.out.2 ?_)
  clear HL
  go_loopw [11] (fun s11 wr => ∃ i : Nat, i ≤ 32 ∧ s11 = .int .i64 i ∧ w = wr) (fun s11 _ => 32 - (intOf s11).toNat)
  case atStart => exact ⟨0, by omega, rfl, rfl⟩
  case round =>
    obtain ⟨i, hi, rfl, rfl⟩ := hrel
    by_cases hlt : i < 32
    · have i0 : (0 : Int) ≤ (i : Int) := Int.natCast_nonneg _
      have i1 : (i : Int) < 32 := by omega
      have i2 : decide (i < 32) = true := decide_eq_true hlt
      have i3 : decide ((i : Int) < 32) = true := decide_eq_true i1
      have hv := HC.out.1 i hlt
      have HI := run_index32 cs hlt hv w
      unfold gpV at HI
      cases hx : S.G i with
      | none =>
        rw [hx] at HI
        simp only [Option.map_none] at HI
        clear hv
        go_wp2_with fail
        go_roundw
        case rel => exact ⟨i + 1, hlt, by go_num, by first | trivial | rfl⟩
        case measure => simp [intOf]; omega
      | some x =>
        rw [hx] at HI
        simp only [Option.map_some] at HI
        have x2 := (HC.out.2.2.cells hx).2.2.1
        have MQ := Lib.hid (qflag_any (HC.out.2.2.que i x hx))
        rw [HC.out.2.1 i x hx] at MQ
        clear hv
        go_wp2_with fail
        refine MQ.out.mono ?_
        rintro r w' ⟨rfl, rfl⟩
        go_wp2_with fail
        go_roundw
        case rel => exact ⟨i + 1, hlt, by go_num, by first | trivial | rfl⟩
        case measure => simp [intOf]; omega
    · obtain rfl : i = 32 := by omega
      go_wp2_with fail
      go_ret
      exact ⟨rfl, rfl⟩
theorem fq_flag {w0 : World} {ks : List (Nat × Obj)} {p : Nat} {own : Nat → En} {here : Nat → Bool} {c g : Int} {t : Nat} (a : FQ w0 ks w p h S K own here c g t) (hov : ∀ i x, S.G i = some x → x.q.over = false) :
    Calls Try.prog 43 #[.pointer (some ⟨h, 0, none⟩)] w fun e w' => e = .returned (.bool false) ∧ w = w' := by
  obtain ⟨F, h1, _⟩ := a.ex
  obtain ⟨gb, qb, Fq, m, rfl⟩ := h1.ex
  exact hflag_some m hov
end

end Go.Proofs.Ytefekboacghnjaa
