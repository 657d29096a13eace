/-
  The bench of chapter 8: while one waits, nobody was served for more than the credit and the granularity allow, and one charge.
-/
import Derived.Test.YtkemhcokkaanfaaBp
namespace Go.Proofs.Ytkemhcokkaanfaa
open Go.RowKit Go.Maps

/-- what one was served at most, d: how far back one may begin -/
def Under (d : Int) (s : Nat) (e : En) : Prop := (1024 * s : Int) ≤ (max e.v d - d) * e.wt + e.rem
structure Pot (d : Int) (B : BS) (sv : Nat → Nat) : Prop where
  inn : ∀ i, i < 8 → ∀ e, e ∈ B.X.L → e.id = (i : Nat) → Under d (sv i) e
  out : ∀ i, i < 8 → (∀ e, e ∈ B.X.L → e.id ≠ (i : Nat)) → Under d (sv i) (B.own i)
/-- one stands and waits -/
def Waits (X : QS) (m0 : Int) : Prop := X.mn = m0 ∧ ∃ e, e ∈ X.L ∧ e.id = 8 ∧ e.v = m0
def servT (sv : Nat → Nat) (who : Int) (ns : Nat) : Nat → Nat := fun i => if who = (i : Nat) then sv i + ns else sv i
section
variable {c g : Int} {t : Nat} {B : BS} {e : En} {d m0 : Int} {sv : Nat → Nat} {s : Nat} {mn : Int}
theorem Under.woken (h : Under d s e) (hd : d = mn - c) : Under d s (woken e mn c) := by
  unfold Under at *
  show _ ≤ (max (max e.v (mn - c)) d - d) * _ + _
  rw [← hd]
  have : max (max e.v d) d = max e.v d := by omega
  rw [this]
  exact h
theorem Under.charge (h : Under d s e) {e' : En} {r ns : Nat} (hv : e'.v = e.v + r) (hd : d ≤ e.v) (hw : e'.wt = e.wt) (hr : e'.rem + r * e.wt = e.rem + ns * 1024) : Under d (s + ns) e' := by
  unfold Under at *
  rw [hv, hw]
  rw [Int.max_eq_left hd] at h
  rw [Int.max_eq_left (show d ≤ e.v + r by omega)]
  have f8 : (e'.rem : Int) + (r : Int) * (e.wt : Int) = (e.rem : Int) + (ns : Int) * 1024 := by
    have := congrArg (Nat.cast (R := Int)) hr
    simp only [Int.natCast_add, Int.natCast_mul] at this
    exact this
  rw [show e.v + (r : Int) - d = (e.v - d) + r by omega, Int.add_mul]
  generalize (r : Int) * (e.wt : Int) = a at *
  rw [Int.natCast_add]
  omega
theorem Under.room (h : Under d s e) {m g : Int} (hv : e.v ≤ m + g) (hd : d ≤ e.v) (hr : e.rem < e.wt) (hc : d = m - c) (hcg : 0 ≤ c + g + 1) : s ≤ ((c + g + 1).toNat * e.wt) / 1024 := by
  unfold Under at h
  rw [Int.max_eq_left hd] at h
  have h1 : (e.v - d) * (e.wt : Int) ≤ (c + g) * (e.wt : Int) := Int.mul_le_mul_of_nonneg_right (by omega) (by omega)
  have h2 : (1024 * s : Int) < (c + g + 1) * (e.wt : Int) := by rw [Int.add_mul]; omega
  obtain ⟨k, hk⟩ := Int.eq_ofNat_of_zero_le hcg
  rw [hk] at h2 ⊢
  rw [Int.toNat_natCast]
  have h3 : 1024 * s < k * e.wt := by
    have : ((1024 * s : Nat) : Int) < ((k * e.wt : Nat) : Int) := by simpa using h2
    exact Int.ofNat_lt.1 this
  rw [Nat.le_div_iff_mul_le (by omega)]
  omega
theorem Waits.pick (h : Waits B.X m0) (gran : Int) : Waits (pickQ B.X gran) m0 := h
/-- the waiting one waits on, but it is served -/
theorem Waits.work (hT : Terms c g t) (h : NearB c g t B) (hm : B.X.mn ≤ 100000000000) (x : WK) (hw : Waits B.X m0) (hno : servedB g t B x false ≠ 8) : Waits (workB c g t B x false).X m0 := by
  obtain ⟨h1, e, he, hi, hv⟩ := hw
  have hst : e ∈ (workB c g t B x false).X.L := by
    rcases work_stays hT h hm x false he (by omega) with h2 | h2
    · exact absurd (h2.1.trans hi) hno
    · exact h2.2
  have h8 : x.who % 8 < 8 := Nat.mod_lt _ (by omega)
  refine ⟨?_, e, hst, hi, hv⟩
  revert hst
  unfold workB
  split
  · cases hg : B.X.get ((x.who % 8 : Nat) : Int) with
    | none =>
      intro hst
      have hst : e ∈ (putQ B.X (woken (B.own (x.who % 8)) B.X.mn c)).L := hst
      show (putQ B.X (woken (B.own (x.who % 8)) B.X.mn c)).mn = m0
      revert hst
      unfold putQ
      split
      · intro hst
        rw [raise_same (X := B.X.add _) hst (by show e.v ≤ B.X.mn; omega)]
        exact h1
      · exact fun _ => h1
    | some y =>
      intro hst
      have hst : e ∈ (dropQ B.X ((x.who % 8 : Nat) : Int)).L := hst
      show (dropQ B.X ((x.who % 8 : Nat) : Int)).mn = m0
      revert hst
      unfold dropQ
      split
      · intro hst
        rw [raise_same (X := B.X.drop _) hst (by show e.v ≤ B.X.mn; omega)]
        exact h1
      · exact fun _ => h1
  · rw [if_neg (by simp)]
    have hn := h.q.turn g x.yields
    have e1 := turnQ_mn B.X g x.yields
    have e2 := turnQ_L B.X g x.yields
    split
    · intro _
      exact e1.trans h1
    · rename_i hno2
      have hcur : ∃ x', x' ∈ (turnQ B.X g x.yields).L ∧ x'.id = (turnQ B.X g x.yields).cur := by
        rcases hn.ok.cur with hx | hx
        · exact absurd (.inl hx) hno2
        · exact hx
      obtain ⟨y, hy, hyc⟩ := hcur
      have hv2 : y.v ≤ (turnQ B.X g x.yields).mn + g := by
        rw [e1]
        exact turn_cur h.q.ok h.led hT.g0 hT.g1 x.yields (by rw [← e2]; exact hy) hyc
      have hns : x.ns % (t + 1) ≤ t := Nat.le_of_lt_succ (Nat.mod_lt _ (by omega))
      obtain ⟨b1, b2, b3⟩ := hn.charge hT (by rw [e1]; exact hm) hy hyc hv2 hns
      intro hst
      have hst : e ∈ (chargeQ (turnQ B.X g x.yields) (x.ns % (t + 1))).L := hst
      show (chargeQ (turnQ B.X g x.yields) (x.ns % (t + 1))).mn = m0
      rw [b1] at hst ⊢
      rw [raise_same (X := (turnQ B.X g x.yields).set _) hst (by show e.v ≤ (turnQ B.X g x.yields).mn; omega)]
      exact e1.trans h1
set_option maxHeartbeats 4000000 in
/-- what each was served stays under what it may be -/
theorem Pot.work (hT : Terms c g t) (h : NearB c g t B) (hm : B.X.mn ≤ 100000000000) (x : WK) (hd : d = B.X.mn - c) (hp : Pot d B sv) :
    Pot d (workB c g t B x false) (servT sv (servedB g t B x false) (x.ns % (t + 1))) := by
  have h8 : x.who % 8 < 8 := Nat.mod_lt _ (by omega)
  have hns : x.ns % (t + 1) ≤ t := Nat.le_of_lt_succ (Nat.mod_lt _ (by omega))
  by_cases hk0 : x.kind = 0
  · have hs : servT sv (servedB g t B x false) (x.ns % (t + 1)) = sv := by
      funext i
      unfold servT servedB
      rw [if_pos hk0, if_neg (by omega)]
    rw [hs]
    unfold workB
    rw [if_pos hk0]
    cases hg : B.X.get ((x.who % 8 : Nat) : Int) with
    | none =>
      have habs := QS.get_none hg
      show Pot d ⟨pickQ (putQ B.X (woken (B.own (x.who % 8)) B.X.mn c)) g, B.own⟩ sv
      by_cases hpc : putC B.X (woken (B.own (x.who % 8)) B.X.mn c) = 0
      · have e1 : putQ B.X (woken (B.own (x.who % 8)) B.X.mn c) = (B.X.add (woken (B.own (x.who % 8)) B.X.mn c)).raise := if_pos hpc
        rw [e1]
        refine ⟨fun i hi e he hei => ?_, fun i hi hne => hp.out i hi fun e he => hne e (List.mem_append_left _ he)⟩
        rcases List.mem_append.1 he with he | he
        · exact hp.inn i hi e he hei
        · rw [List.mem_singleton.1 he] at hei ⊢
          have hid := (h.own _ h8).id
          have : i = x.who % 8 := by
            have : (B.own (x.who % 8)).id = (i : Int) := hei
            omega
          subst this
          exact (hp.out _ h8 fun e he hc => habs (List.mem_map.2 ⟨e, he, hc⟩)).woken hd
      · have e1 : putQ B.X (woken (B.own (x.who % 8)) B.X.mn c) = B.X := if_neg hpc
        rw [e1]
        exact ⟨hp.inn, hp.out⟩
    | some y =>
      obtain ⟨hy, hyi⟩ := QS.get_some hg
      show Pot d ⟨pickQ (dropQ B.X ((x.who % 8 : Nat) : Int)) g, updO B.own (x.who % 8) y⟩ sv
      have e1 : dropQ B.X ((x.who % 8 : Nat) : Int) = (B.X.drop ((x.who % 8 : Nat) : Int)).raise := if_pos (List.mem_map.2 ⟨y, hy, hyi⟩)
      rw [e1]
      refine ⟨fun i hi e he hei => hp.inn i hi e (lessL_mem.1 he).1 hei, fun i hi hne => ?_⟩
      show Under d (sv i) (updO B.own (x.who % 8) y i)
      unfold updO
      split
      · rename_i hii
        exact hp.inn i hi y hy (by rw [hyi, hii])
      · rename_i hii
        exact hp.out i hi fun e he hei => hne e (lessL_mem.2 ⟨he, by omega⟩) hei
  · have hkw : ¬ (x.kind = 1 ∧ false = true) := by simp
    have hn := h.q.turn g x.yields
    have e1 := turnQ_mn B.X g x.yields
    have e2 := turnQ_L B.X g x.yields
    unfold servedB workB
    rw [if_neg hk0, if_neg hkw, if_neg hk0, if_neg hkw]
    split
    · refine ⟨fun i hi e he hei => ?_, fun i hi hne => ?_⟩
      · unfold servT
        rw [if_neg (by omega)]
        exact hp.inn i hi e (by rw [← e2]; exact he) hei
      · unfold servT
        rw [if_neg (by omega)]
        exact hp.out i hi fun e he => hne e (by show e ∈ (turnQ _ _ _).L; rw [e2]; exact he)
    · rename_i hno
      have hcur : ∃ x', x' ∈ (turnQ B.X g x.yields).L ∧ x'.id = (turnQ B.X g x.yields).cur := by
        rcases hn.ok.cur with hx | hx
        · exact absurd (.inl hx) hno
        · exact hx
      obtain ⟨y, hy, hyc⟩ := hcur
      have hv : y.v ≤ (turnQ B.X g x.yields).mn + g := by
        rw [e1]
        exact turn_cur h.q.ok h.led hT.g0 hT.g1 x.yields (by rw [← e2]; exact hy) hyc
      obtain ⟨b1, b2, b3⟩ := hn.charge hT (by rw [e1]; exact hm) hy hyc hv hns
      have b4 : (pickQ (chargeQ (turnQ B.X g x.yields) (x.ns % (t + 1))) g).L = setL (turnQ B.X g x.yields).L (charged y (x.ns % (t + 1))) := by rw [b1]; rfl
      obtain ⟨f1, f2, f3, f4, f5, f6, f7⟩ := charged_facts hT hn (by rw [e1]; exact hm) hy hns
      have hyX : y ∈ B.X.L := by rw [← e2]; exact hy
      refine ⟨fun i hi e he hei => ?_, fun i hi hne => ?_⟩
      · have he : e ∈ (pickQ (chargeQ (turnQ B.X g x.yields) (x.ns % (t + 1))) g).L := he
        rw [b4] at he
        unfold servT
        rcases setL_mem he with rfl | ⟨he, hne⟩
        · have hyi : y.id = (i : Nat) := f4.symm.trans hei
          rw [if_pos (hyc.symm.trans hyi)]
          exact (hp.inn i hi y hyX hyi).charge f1 (by have := h.q.low y hyX; omega) f5 f7
        · rw [if_neg (fun hc => hne (hei.trans (hc.symm.trans (hyc.symm.trans f4.symm))))]
          exact hp.inn i hi e (by rw [← e2]; exact he) hei
      · have hne : ∀ e, e ∈ (pickQ (chargeQ (turnQ B.X g x.yields) (x.ns % (t + 1))) g).L → e.id ≠ (i : Nat) := hne
        rw [b4] at hne
        unfold servT
        rw [if_neg (fun hc => hne (charged y (x.ns % (t + 1))) (setL_self hy rfl) (f4.trans (hyc.trans hc)))]
        exact hp.out i hi fun e he hei => by
          by_cases hc : e.id = y.id
          · exact hne (charged y (x.ns % (t + 1))) (setL_self hy rfl) (f4.trans (hc.symm.trans hei))
          · exact hne e (setL_has (by rw [e2]; exact he) (fun h => hc (h.trans f4))) hei
/-- the one that was served lies within its room -/
theorem Pot.served (hT : Terms c g t) (h : NearB c g t B) (hm : B.X.mn ≤ 100000000000) (x : WK) (hd : d = B.X.mn - c) (hp : Pot d B sv) {i : Nat} (hi : i < 8) (hs : servedB g t B x false = (i : Nat)) :
    ∃ e, e ∈ (workB c g t B x false).X.L ∧ e.id = (i : Nat) ∧ sv i + x.ns % (t + 1) ≤ ((c + g + 1).toNat * e.wt) / 1024 + t ∧ 64 ≤ e.wt ∧ e.wt ≤ 4095 := by
  have hns : x.ns % (t + 1) ≤ t := Nat.le_of_lt_succ (Nat.mod_lt _ (by omega))
  have hk0 : x.kind ≠ 0 := fun hk => by unfold servedB at hs; rw [if_pos hk] at hs; omega
  have hkw : ¬ (x.kind = 1 ∧ false = true) := by simp
  have hn := h.q.turn g x.yields
  have e2 := turnQ_L B.X g x.yields
  have hcur : ∃ y, y ∈ B.X.L ∧ y.id = (i : Nat) := by
    unfold servedB at hs
    rw [if_neg hk0, if_neg hkw] at hs
    split at hs
    · omega
    · rcases hn.ok.cur with hx | ⟨y, hy, hyc⟩
      · omega
      · exact ⟨y, by rw [← e2]; exact hy, hyc.trans hs⟩
  obtain ⟨y, hy, hyi⟩ := hcur
  rcases serve_stays hT h hm x false hk0 hkw hy with ⟨h1, h2, h3⟩ | ⟨h1, h2⟩
  · refine ⟨_, h2, hyi, ?_, h.q.wt y hy⟩
    have hro := (hp.inn i hi y hy hyi).room (c := c) (m := B.X.mn) (g := g) h3 (by have := h.q.low y hy; omega) (h.q.ok.ents y hy).r hd (by have := hT.c0; have := hT.g0; omega)
    show _ ≤ ((c + g + 1).toNat * y.wt) / 1024 + t
    omega
  · exact absurd (hs.trans hyi.symm) h1
end

end Go.Proofs.Ytkemhcokkaanfaa
