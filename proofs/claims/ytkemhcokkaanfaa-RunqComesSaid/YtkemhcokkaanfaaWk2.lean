/-
  The bench of chapter 8: each piece of work keeps all vruntimes near the least one.
-/
import Derived.Test.YtkemhcokkaanfaaWk
namespace Go.Proofs.Ytkemhcokkaanfaa
open Go.RowKit Go.Maps

section
variable {c g : Int} {t : Nat} {X : QS} {e : En}
/-- by how much a vruntime goes on -/
theorem step_le {w r n t : Nat} (hw : 64 ≤ w) (hr : r < w) (hn : n ≤ t) : (r + n * 1024) / w ≤ 16 * t := by
  have h1 : r + n * 1024 < (16 * t + 1) * w := by
    have : n * 1024 ≤ 16 * t * w := by
      calc n * 1024 ≤ t * 1024 := Nat.mul_le_mul_right _ hn
        _ = 16 * t * 64 := by omega
        _ ≤ 16 * t * w := Nat.mul_le_mul_left _ hw
    rw [Nat.add_mul]
    omega
  exact Nat.le_of_lt_succ ((Nat.div_lt_iff_lt_mul (by omega)).2 h1)
theorem sat_small {a b : Int} (ha : -65536 ≤ a) (ha2 : a ≤ 1000000000000000) (hb : 0 ≤ b) (hb2 : b ≤ 1000000000) : satZ a b = a + b ∧ overZ a b = false := by
  refine ⟨satZ_in a b (by omega) (by omega), ?_⟩
  unfold overZ
  exact decide_eq_false (by omega)
/-- what is served -/
def rise (e : En) (ns : Nat) : Nat := (e.rem + ns * 1024) / e.wt
theorem charged_facts (hT : Terms c g t) (h : NearQ c g t X) (hm : X.mn ≤ 100000000000) (he : e ∈ X.L) {ns : Nat} (hn : ns ≤ t) :
    (charged e ns).v = e.v + rise e ns ∧ overZ e.v (((e.rem + ns * 1024) / e.wt : Nat) : Int) = false ∧ (charged e ns).ok ∧ (charged e ns).id = e.id ∧ (charged e ns).wt = e.wt ∧ rise e ns ≤ 16 * t ∧ (charged e ns).rem + rise e ns * e.wt = e.rem + ns * 1024 := by
  have hw := h.wt e he
  have ho := h.ok.ents e he
  have h1 := h.low e he
  have h2 := h.high e he
  have h0 := h.mn0
  have hr : rise e ns ≤ 16 * t := step_le hw.1 ho.r hn
  obtain ⟨t1, t2, t3, t4, t5, t6⟩ := hT
  have hs := sat_small (a := e.v) (b := (rise e ns : Nat)) (by omega) (by omega) (by omega) (by omega)
  refine ⟨hs.1, hs.2, ⟨ho.i1, ho.i2, ho.w1, ho.w2, ?_, ?_, Nat.mod_lt _ (by omega)⟩, rfl, rfl, hr, ?_⟩
  · show _ ≤ satZ _ _
    rw [show satZ e.v (((e.rem + ns * 1024) / e.wt : Nat) : Int) = e.v + rise e ns from hs.1]
    omega
  · show satZ _ _ ≤ _
    rw [show satZ e.v (((e.rem + ns * 1024) / e.wt : Nat) : Int) = e.v + rise e ns from hs.1]
    omega
  · show (e.rem + ns * 1024) % e.wt + (e.rem + ns * 1024) / e.wt * e.wt = _
    rw [Nat.mul_comm _ e.wt]
    exact Nat.mod_add_div _ _
/-- charging the current one, that is no further ahead than the granularity -/
theorem NearQ.charge (hT : Terms c g t) (h : NearQ c g t X) (hm : X.mn ≤ 100000000000) (he : e ∈ X.L) (hc : e.id = X.cur) (hg : e.v ≤ X.mn + g) {ns : Nat} (hn : ns ≤ t) :
    chargeQ X ns = (X.set (charged e ns)).raise ∧ NearQ c g t (chargeQ X ns) ∧ (chargeQ X ns).mn ≤ X.mn + g + 16 * t := by
  obtain ⟨f1, f2, f3, f4, f5, f6, f7⟩ := charged_facts hT h hm he hn
  have hget : X.get X.cur = some e := by rw [← hc]; exact h.ok.get he
  have eq : chargeQ X ns = (X.set (charged e ns)).raise := by
    unfold chargeQ
    rw [hget]
    simp only
    rw [if_neg (by have := hT.t1; omega), f2, Bool.or_false]
    rfl
  have h1 := h.low e he
  have hN : NearQ c g t (X.set (charged e ns)) := h.set f3 (by rw [f1]; omega) (by rw [f1]; have := hT.g0; omega) (by rw [f5]; exact h.wt e he)
  have hR := hN.raise hT
  rw [eq]
  exact ⟨rfl, hR.1, hR.2⟩

/-- the bench is near -/
structure OwnOk (c g : Int) (t : Nat) (mn : Int) (i : Nat) (e : En) : Prop where
  id : e.id = i
  wt : 64 ≤ e.wt ∧ e.wt ≤ 4095
  r : e.rem < e.wt
  lo : -65535 ≤ e.v
  hi : e.v ≤ mn + g + 16 * t
theorem OwnOk.mono {mn mn' : Int} {i : Nat} (h : OwnOk c g t mn i e) (hm : mn ≤ mn') : OwnOk c g t mn' i e := ⟨h.id, h.wt, h.r, h.lo, by have := h.hi; omega⟩
structure NearB (c g : Int) (t : Nat) (B : BS) : Prop where
  q : NearQ c g t B.X
  led : B.X.led
  own : ∀ i, i < 8 → OwnOk c g t B.X.mn i (B.own i)
theorem put_led (_hl : X.led) (hc : putC X e ≠ 0) : (putQ X e) = X := if_neg hc
theorem led_putQ (hl : X.led) : (putQ X e).led := by
  unfold putQ
  split
  · exact QS.raise_led _
  · exact hl
theorem led_dropQ (hl : X.led) (i : Int) : (dropQ X i).led := by
  unfold dropQ
  split
  · exact QS.raise_led _
  · exact hl
theorem weighed_ok (he : e.ok) {w : Nat} (h1 : 2 ≤ w) (h2 : w ≤ 262144) : (weighed e w).ok := by
  refine ⟨he.i1, he.i2, h1, h2, he.v1, he.v2, ?_⟩
  show mdQ e.rem w e.wt < w
  have hr := he.r
  have hw := he.w1
  have hlt : e.rem * w < w * e.wt := by rw [Nat.mul_comm w]; exact Nat.mul_lt_mul_of_pos_right hr (by omega)
  have h3 : e.rem * w / e.wt < w := (Nat.div_lt_iff_lt_mul (by omega)).2 hlt
  unfold mdQ
  split
  · exact h3
  · rename_i hbig
    exfalso
    apply hbig
    have := he.w2
    calc e.rem * w < w * e.wt := hlt
      _ ≤ 262144 * e.wt := Nat.mul_le_mul_right _ h2
      _ = e.wt * 262144 := Nat.mul_comm _ _
      _ ≤ e.wt * 18446744073709551616 := Nat.mul_le_mul_left _ (by omega)
theorem led_of {X' : QS} (hl : X.led) (hk : ksOf X'.L = ksOf X.L) (hm : X'.mn = X.mn) : X'.led := by
  intro k h
  rw [hk] at h
  rw [hm]
  exact hl k h
theorem NearQ.weigh (h : NearQ c g t X) (hl : X.led) (i : Int) {w : Nat} (h1 : 64 ≤ w) (h2 : w ≤ 4095) : NearQ c g t (weighQ X i w) ∧ (weighQ X i w).led ∧ (weighQ X i w).mn = X.mn := by
  unfold weighQ
  cases hg : X.get i with
  | none => exact ⟨h, hl, rfl⟩
  | some e =>
    simp only
    rw [if_neg (by omega)]
    obtain ⟨he, _⟩ := QS.get_some hg
    exact ⟨h.set (weighed_ok (h.ok.ents e he) (by omega) (by omega)) (h.low e he) (h.high e he) ⟨h1, h2⟩, led_of hl (ksOf_set_same h.ok.ids he rfl) rfl, rfl⟩
theorem heavy_in (w : Nat) : 64 ≤ heavy8 w ∧ heavy8 w ≤ 4095 := by
  unfold heavy8
  have := Nat.mod_lt w (show 4032 > 0 by omega)
  omega
theorem NearQ.putW (hT : Terms c g t) (h : NearQ c g t X) (hm : X.mn ≤ 100000000000) {i : Nat} (hi : i < 8) (ho : OwnOk c g t X.mn i e) (hl : X.led) :
    NearQ c g t (putQ X (woken e X.mn c)) ∧ (putQ X (woken e X.mn c)).led ∧ X.mn ≤ (putQ X (woken e X.mn c)).mn ∧ (putQ X (woken e X.mn c)).mn ≤ X.mn + g + 16 * t := by
  have hge := hT.g0
  have h0 := h.mn0
  obtain ⟨t1, t2, t3, t4, t5, t6⟩ := hT
  have w1 := ho.wt
  have hlo := ho.lo
  have hhi := ho.hi
  have hid := ho.id
  have hr := ho.r
  refine ⟨?_, led_putQ hl, ?_⟩
  · unfold putQ
    split
    · rename_i hc
      obtain ⟨k1, k2, k3⟩ := putC_ok (show (woken e X.mn c).id ≤ _ by show e.id ≤ _; omega) ⟨by show _ ≤ max e.v (X.mn - c); omega, by show max e.v (X.mn - c) ≤ _; omega⟩ hc
      have hlen := h.ok.len
      exact ((h.add ⟨t1, t2, t3, t4, t5, t6⟩ k1 k2 (by omega) (by show _ ≤ max e.v (X.mn - c); omega) (by show max e.v (X.mn - c) ≤ _; omega) w1).raise ⟨t1, t2, t3, t4, t5, t6⟩).1
    · exact h
  · unfold putQ
    split
    · rename_i hc
      obtain ⟨k1, k2, k3⟩ := putC_ok (show (woken e X.mn c).id ≤ _ by show e.id ≤ _; omega) ⟨by show _ ≤ max e.v (X.mn - c); omega, by show max e.v (X.mn - c) ≤ _; omega⟩ hc
      have hlen := h.ok.len
      have hA := h.add ⟨t1, t2, t3, t4, t5, t6⟩ k1 k2 (by omega) (by show _ ≤ max e.v (X.mn - c); omega) (by show max e.v (X.mn - c) ≤ _; omega) w1
      exact ⟨(X.add (woken e X.mn c)).raise_ge, (hA.raise ⟨t1, t2, t3, t4, t5, t6⟩).2⟩
    · omega
theorem NearQ.dropW (hT : Terms c g t) (h : NearQ c g t X) (hl : X.led) (i : Int) :
    NearQ c g t (dropQ X i) ∧ (dropQ X i).led ∧ X.mn ≤ (dropQ X i).mn ∧ (dropQ X i).mn ≤ X.mn + g + 16 * t := by
  have hge := hT.g0
  refine ⟨?_, led_dropQ hl i, ?_⟩
  · unfold dropQ
    split
    · exact ((h.drop i).raise hT).1
    · exact h
  · unfold dropQ
    split
    · exact ⟨(X.drop i).raise_ge, ((h.drop i).raise hT).2⟩
    · omega
theorem NearB.work (hT : Terms c g t) {B : BS} (h : NearB c g t B) (hm : B.X.mn ≤ 100000000000) (w : WK) (weighs : Bool) :
    NearB c g t (workB c g t B w weighs) ∧ B.X.mn ≤ (workB c g t B w weighs).X.mn ∧ (workB c g t B w weighs).X.mn ≤ B.X.mn + g + 16 * t := by
  have hge := hT.g0
  have h8 : w.who % 8 < 8 := Nat.mod_lt _ (by omega)
  unfold workB
  split
  · cases hg : B.X.get ((w.who % 8 : Nat) : Int) with
    | none =>
      obtain ⟨a1, a2, a3, a4⟩ := h.q.putW hT hm h8 (h.own _ h8) h.led
      exact ⟨⟨a1.pick g, a2, fun i hi => (h.own i hi).mono a3⟩, a3, a4⟩
    | some e =>
      obtain ⟨a1, a2, a3, a4⟩ := h.q.dropW hT h.led ((w.who % 8 : Nat) : Int)
      obtain ⟨he, hid⟩ := QS.get_some hg
      refine ⟨⟨a1.pick g, a2, fun i hi => ?_⟩, a3, a4⟩
      show OwnOk c g t (dropQ B.X _).mn i (updO B.own (w.who % 8) e i)
      unfold updO
      split
      · rename_i hi2
        have hlo := h.q.low e he
        have hhi := h.q.high e he
        have h0 := h.q.mn0
        have h1 := hT.c1
        exact ⟨by rw [hid, hi2], h.q.wt e he, (h.q.ok.ents e he).r, by omega, by omega⟩
      · exact (h.own i hi).mono a3
  · split
    · obtain ⟨a1, a2, a3⟩ := h.q.weigh h.led ((w.who % 8 : Nat) : Int) (heavy_in w.wt).1 (heavy_in w.wt).2
      refine ⟨⟨a1.pick g, a2, fun i hi => (h.own i hi).mono (by show _ ≤ (weighQ _ _ _).mn; omega)⟩, ?_, ?_⟩
      · show _ ≤ (weighQ _ _ _).mn; omega
      · show (weighQ _ _ _).mn ≤ _; omega
    · have hn := h.q.turn g w.yields
      have e1 := turnQ_mn B.X g w.yields
      have e2 := turnQ_L B.X g w.yields
      have hl : (turnQ B.X g w.yields).led := led_of h.led (by rw [e2]) e1
      split
      · exact ⟨⟨hn, hl, fun i hi => (h.own i hi).mono (by show _ ≤ (turnQ _ _ _).mn; omega)⟩, by show _ ≤ (turnQ _ _ _).mn; omega, by show (turnQ _ _ _).mn ≤ _; omega⟩
      · rename_i hno
        have hcur : ∃ x, x ∈ (turnQ B.X g w.yields).L ∧ x.id = (turnQ B.X g w.yields).cur := by
          rcases hn.ok.cur with hx | hx
          · exact absurd (.inl hx) hno
          · exact hx
        obtain ⟨x, hx, hxc⟩ := hcur
        have hv : x.v ≤ (turnQ B.X g w.yields).mn + g := by
          rw [e1]
          exact turn_cur h.q.ok h.led hge hT.g1 w.yields (by rw [← e2]; exact hx) hxc
        have hns : w.ns % (t + 1) ≤ t := Nat.le_of_lt_succ (Nat.mod_lt _ (by omega))
        obtain ⟨b1, b2, b3⟩ := hn.charge hT (by rw [e1]; exact hm) hx hxc hv hns
        have b4 : (turnQ B.X g w.yields).mn ≤ (chargeQ (turnQ B.X g w.yields) (w.ns % (t + 1))).mn := by
          rw [b1]
          exact QS.raise_ge ((turnQ B.X g w.yields).set _)
        refine ⟨⟨b2.pick g, by rw [b1]; exact led_of (X := ((turnQ B.X g w.yields).set (charged x (w.ns % (t + 1)))).raise) (QS.raise_led _) rfl rfl, fun i hi => (h.own i hi).mono ?_⟩, ?_, ?_⟩
        · show _ ≤ (chargeQ _ _).mn; omega
        · show _ ≤ (chargeQ _ _).mn; omega
        · show (chargeQ _ _).mn ≤ _; omega
end

end Go.Proofs.Ytkemhcokkaanfaa
