/-
  The bench of chapter 8 as lists: what a piece of work does, and how near all vruntimes stay.
-/
import Derived.Test.YtkemhcokkaanfaaQp
namespace Go.Proofs.Ytkemhcokkaanfaa
open Go.RowKit Go.Maps

/-- a piece of work -/
structure WK where
  kind : Int
  who : Nat
  wt : Nat
  ns : Nat
  yields : Bool
def heavy8 (w : Nat) : Nat := 64 + w % 4032
/-- a bench -/
structure BS where
  X : QS
  own : Nat → En
def woken (e : En) (mn credit : Int) : En := { e with v := max e.v (mn - credit) }
def updO (own : Nat → En) (i : Nat) (e : En) : Nat → En := fun j => if j = i then e else own j
/-- the one that is served -/
def turnQ (X : QS) (gran : Int) (yields : Bool) : QS := if yields then yieldQ (pickQ X gran) gran else pickQ X gran
def workB (credit gran : Int) (tick : Nat) (B : BS) (w : WK) (weighs : Bool) : BS :=
  if w.kind = 0 then
    match B.X.get ((w.who % 8 : Nat) : Int) with
    | some e => ⟨pickQ (dropQ B.X ((w.who % 8 : Nat) : Int)) gran, updO B.own (w.who % 8) e⟩
    | none => ⟨pickQ (putQ B.X (woken (B.own (w.who % 8)) B.X.mn credit)) gran, B.own⟩
  else if w.kind = 1 ∧ weighs = true then ⟨pickQ (weighQ B.X ((w.who % 8 : Nat) : Int) (heavy8 w.wt)) gran, B.own⟩
  else if (turnQ B.X gran w.yields).cur = -1 ∨ 1000000000 < w.ns % (tick + 1) then ⟨turnQ B.X gran w.yields, B.own⟩
  else ⟨pickQ (chargeQ (turnQ B.X gran w.yields) (w.ns % (tick + 1))) gran, B.own⟩
/-- who was served; -1: nobody -/
def servedB (gran : Int) (tick : Nat) (B : BS) (w : WK) (weighs : Bool) : Int :=
  if w.kind = 0 then -1 else if w.kind = 1 ∧ weighs = true then -1 else if (turnQ B.X gran w.yields).cur = -1 ∨ 1000000000 < w.ns % (tick + 1) then -1 else (turnQ B.X gran w.yields).cur

/-! the least one -/
theorem head_least {L : List En} {k : Int × Int} (h : (ksOf L).head? = some k) {e : En} (he : e ∈ L) : k.1 ≤ e.v := by
  have hu := ksOf_up L
  have hm : e.key ∈ ksOf L := (ksOf_mem L _).2 (List.mem_map.2 ⟨e, he, rfl⟩)
  cases hl : ksOf L with
  | nil => rw [hl] at h; simp at h
  | cons a r =>
    rw [hl] at h hu hm
    obtain rfl : a = k := by simpa using h
    rw [Up, List.pairwise_cons] at hu
    rcases List.mem_cons.1 hm with e1 | e1
    · rw [← e1]; exact Int.le_refl _
    · have := hu.1 _ e1
      rcases this with h1 | h1
      · exact Int.le_of_lt h1
      · exact Int.le_of_eq h1.1
theorem head_none {L : List En} (h : (ksOf L).head? = none) : L = [] := by
  rw [List.head?_eq_none_iff] at h
  cases L with
  | nil => rfl
  | cons e L =>
    have := (ksOf_mem (e :: L) e.key).2 (by simp)
    rw [h] at this
    simp at this
theorem head_some {L : List En} {e : En} (he : e ∈ L) : ∃ k, (ksOf L).head? = some k := by
  cases h : (ksOf L).head? with
  | none => rw [head_none h] at he; simp at he
  | some k => exact ⟨k, rfl⟩
/-- the first of all but the current one is no further than any other one -/
theorem QS.ok.firstK_least {X : QS} (_h : X.ok) {k : Int × Int} (hk : X.firstK = some k) {e : En} (he : e ∈ X.L) (hc : e.id ≠ X.cur) : k.1 ≤ e.v := by
  have hu := ksOf_up X.L
  have hm : e.key ∈ ksOf X.L := (ksOf_mem _ _).2 (List.mem_map.2 ⟨e, he, rfl⟩)
  unfold QS.firstK at hk
  generalize ksOf X.L = l at *
  induction l with
  | nil => simp at hm
  | cons a r ih =>
    rw [Up, List.pairwise_cons] at hu
    rw [List.find?_cons] at hk
    by_cases ha : a.2 ≠ X.cur
    · rw [show decide (a.2 ≠ X.cur) = true from decide_eq_true ha] at hk
      obtain rfl : a = k := by simpa using hk
      rcases List.mem_cons.1 hm with e1 | e1
      · rw [← e1]; exact Int.le_refl _
      · rcases hu.1 _ e1 with h1 | h1
        · exact Int.le_of_lt h1
        · exact Int.le_of_eq h1.1
    · rw [show decide (a.2 ≠ X.cur) = false from decide_eq_false ha] at hk
      rcases List.mem_cons.1 hm with e1 | e1
      · exfalso
        apply ha
        rw [← e1]
        exact hc
      · exact ih hk hu.2 e1
theorem QS.ok.firstK_none_all {X : QS} (_h : X.ok) (hk : X.firstK = none) {e : En} (he : e ∈ X.L) : e.id = X.cur := by
  have hm : e.key ∈ ksOf X.L := (ksOf_mem _ _).2 (List.mem_map.2 ⟨e, he, rfl⟩)
  have := List.find?_eq_none.1 hk _ hm
  exact Decidable.byContradiction fun hc => this (decide_eq_true hc)

/-! near the least one -/
structure NearQ (c g : Int) (t : Nat) (X : QS) : Prop where
  ok : X.ok
  over : X.over = false
  low : ∀ e, e ∈ X.L → X.mn - c ≤ e.v
  high : ∀ e, e ∈ X.L → e.v ≤ X.mn + g + 16 * t
  wt : ∀ e, e ∈ X.L → 64 ≤ e.wt ∧ e.wt ≤ 4095
  mn0 : 0 ≤ X.mn
/-- the least vruntime is told, or a greater one -/
def QS.led (X : QS) : Prop := ∀ k, (ksOf X.L).head? = some k → k.1 ≤ X.mn
/-- the numbers of a bench -/
structure Terms (c g : Int) (t : Nat) : Prop where
  c0 : 0 ≤ c
  c1 : c ≤ 65535
  g0 : 0 ≤ g
  g1 : g ≤ 65535
  t0 : 1 ≤ t
  t1 : t ≤ 65536
theorem raise_mn (X : QS) : X.raise.mn = match (ksOf X.L).head? with | none => X.mn | some k => max X.mn k.1 := rfl
theorem QS.raise_ge (X : QS) : X.mn ≤ X.raise.mn := by
  rw [raise_mn]
  split
  · exact Int.le_refl _
  · exact Int.le_max_left _ _
theorem QS.raise_led (X : QS) : X.raise.led := by
  intro k hk
  have : (ksOf X.L).head? = some k := hk
  rw [raise_mn, this]
  exact Int.le_max_right _ _
theorem QS.led.raise {X : QS} (h : X.led) : X.raise.mn = X.mn := by
  rw [raise_mn]
  split
  · rfl
  · rename_i k hk
    have := h k hk
    exact Int.max_eq_left this
section
variable {c g : Int} {t : Nat} {X : QS}
theorem NearQ.raise (hT : Terms c g t) (h : NearQ c g t X) : NearQ c g t X.raise ∧ X.raise.mn ≤ X.mn + g + 16 * t := by
  have hge := X.raise_ge
  have hup : X.raise.mn ≤ X.mn + g + 16 * t := by
    rw [raise_mn]
    split
    · have := hT.g0; omega
    · rename_i k hk
      obtain ⟨x, hx, rfl⟩ := head_mem hk
      have := h.high x hx
      have := hT.g0
      show max X.mn x.v ≤ _
      omega
  refine ⟨⟨h.ok.raise, h.over, fun e he => ?_, fun e he => ?_, h.wt, by have := h.mn0; omega⟩, hup⟩
  · have h1 := h.low e he
    rw [raise_mn]
    split
    · exact h1
    · rename_i k hk
      have h2 := head_least hk he
      have := hT.c0
      show max X.mn k.1 - c ≤ e.v
      rw [Int.max_def]
      split <;> omega
  · have := h.high e he
    omega
theorem NearQ.at_ (h : NearQ c g t X) {i : Int} (hi : i = -1 ∨ ∃ x, x ∈ X.L ∧ x.id = i) : NearQ c g t (X.at_ i) := ⟨h.ok.at_ hi, h.over, h.low, h.high, h.wt, h.mn0⟩
theorem NearQ.pick (h : NearQ c g t X) (gran : Int) : NearQ c g t (pickQ X gran) := h.at_ (h.ok.pickI_ok gran)
theorem NearQ.yield (h : NearQ c g t X) (gran : Int) : NearQ c g t (yieldQ X gran) := h.at_ (h.ok.yieldI_ok gran)
theorem NearQ.turn (h : NearQ c g t X) (gran : Int) (y : Bool) : NearQ c g t (turnQ X gran y) := by
  unfold turnQ
  cases y
  · exact h.pick gran
  · exact (h.pick gran).yield gran
theorem turnQ_L (X : QS) (gran : Int) (y : Bool) : (turnQ X gran y).L = X.L := by cases y <;> rfl
theorem turnQ_mn (X : QS) (gran : Int) (y : Bool) : (turnQ X gran y).mn = X.mn := by cases y <;> rfl
theorem turnQ_over (X : QS) (gran : Int) (y : Bool) : (turnQ X gran y).over = X.over := by cases y <;> rfl
theorem NearQ.add (_hT : Terms c g t) (h : NearQ c g t X) {e : En} (he : e.ok) (hn : e.id ∉ X.L.map (·.id)) (hl : X.L.length < 128) (h1 : X.mn - c ≤ e.v) (h2 : e.v ≤ X.mn + g + 16 * t) (h3 : 64 ≤ e.wt ∧ e.wt ≤ 4095) : NearQ c g t (X.add e) := by
  refine ⟨h.ok.add he hn hl, h.over, fun x hx => ?_, fun x hx => ?_, fun x hx => ?_, h.mn0⟩
  · rcases List.mem_append.1 hx with hx | hx
    · exact h.low x hx
    · rw [List.mem_singleton.1 hx]; exact h1
  · rcases List.mem_append.1 hx with hx | hx
    · exact h.high x hx
    · rw [List.mem_singleton.1 hx]; exact h2
  · rcases List.mem_append.1 hx with hx | hx
    · exact h.wt x hx
    · rw [List.mem_singleton.1 hx]; exact h3
theorem NearQ.drop (h : NearQ c g t X) (i : Int) : NearQ c g t (X.drop i) := ⟨h.ok.drop i, h.over, fun x hx => h.low x (lessL_mem.1 hx).1, fun x hx => h.high x (lessL_mem.1 hx).1, fun x hx => h.wt x (lessL_mem.1 hx).1, h.mn0⟩
theorem NearQ.set (h : NearQ c g t X) {e : En} (he : e.ok) (h1 : X.mn - c ≤ e.v) (h2 : e.v ≤ X.mn + g + 16 * t) (h3 : 64 ≤ e.wt ∧ e.wt ≤ 4095) : NearQ c g t (X.set e) := by
  refine ⟨h.ok.set he, h.over, fun x hx => ?_, fun x hx => ?_, fun x hx => ?_, h.mn0⟩
  · rcases setL_mem hx with rfl | hx
    · exact h1
    · exact h.low x hx.1
  · rcases setL_mem hx with rfl | hx
    · exact h2
    · exact h.high x hx.1
  · rcases setL_mem hx with rfl | hx
    · exact h3
    · exact h.wt x hx.1

/-! who is current lies no further ahead than the granularity -/
theorem sat_le {a b : Int} (ha : -9223372036854775808 ≤ a) (hb : 0 ≤ b) : satZ a b ≤ a + b := by
  unfold satZ
  split
  · omega
  · split <;> omega
theorem sat_ge {a b : Int} (ha : a ≤ 9223372036854775807) (hb : 0 ≤ b) : a ≤ satZ a b := by
  unfold satZ
  split
  · omega
  · split <;> omega
theorem hold_id {g : Int} (h0 : 0 ≤ g) (h1 : g ≤ 65535) : holdZ g 0 1099511627776 = g := by
  unfold holdZ
  rw [if_neg (by omega), if_neg (by omega)]
theorem first_le_head (h : X.ok) {k k0 : Int × Int} (hk : X.firstK = some k) (hh : (ksOf X.L).head? = some k0) (hc : k0.2 ≠ X.cur) : k.1 ≤ k0.1 := by
  obtain ⟨x, hx, rfl⟩ := head_mem hh
  exact h.firstK_least hk hx hc
theorem pick_cur (h : X.ok) (hl : X.led) {g : Int} (g0 : 0 ≤ g) (g1 : g ≤ 65535) {e : En} (he : e ∈ X.L) (hi : e.id = X.pickI g) : e.v ≤ X.mn + g := by
  obtain ⟨k0, hh⟩ := head_some he
  have h0 := hl k0 hh
  have hm0 : k0 ∈ ksOf X.L := List.mem_of_mem_head? (by rw [hh]; rfl)
  have hme : e.key ∈ ksOf X.L := (ksOf_mem _ _).2 (List.mem_map.2 ⟨e, he, rfl⟩)
  unfold QS.pickI at hi
  cases hf : X.firstK with
  | none =>
    rw [hf] at hi
    obtain ⟨x, hx, hxk⟩ := head_mem hh
    have e1 := h.firstK_none_all hf hx
    have e2 : x = e := En.same h.ids hx he (e1.trans hi.symm)
    subst e2
    rw [← hxk] at h0
    have : x.v ≤ X.mn := h0
    omega
  | some k =>
    have hkm := (QS.firstK_mem hf).1
    have hlow : k0.2 ≠ X.cur → k.1 ≤ X.mn := fun hc => by have := first_le_head h hf hh hc; omega
    cases hg : X.get X.cur with
    | none =>
      rw [hf, hg] at hi
      have e1 := h.ids_ks hme hkm hi
      have e2 : e.v = k.1 := congrArg Prod.fst e1
      have e3 : k0.2 ≠ X.cur := fun hc => by
        obtain ⟨x, hx, rfl⟩ := ksOf_ent hm0
        exact QS.get_none hg (List.mem_map.2 ⟨x, hx, hc⟩)
      have := hlow e3
      omega
    | some c =>
      rw [hf, hg] at hi
      obtain ⟨hc1, hc2⟩ := QS.get_some hg
      have hmc : c.key ∈ ksOf X.L := (ksOf_mem _ _).2 (List.mem_map.2 ⟨c, hc1, rfl⟩)
      have b1 := (h.ents c hc1).v1
      have b2 := (h.ents c hc1).v2
      obtain ⟨y, hy, hyk⟩ := ksOf_ent hkm
      have b3 := (h.ents y hy).v1
      have b4 := (h.ents y hy).v2
      have hyv : y.v = k.1 := congrArg Prod.fst hyk
      simp only at hi
      by_cases hnr : nearB c.v k.1 g = true
      · rw [if_pos hnr] at hi
        have e1 : e = c := En.same h.ids he hc1 (hi.trans hc2.symm)
        subst e1
        unfold nearB at hnr
        rw [decide_eq_true_eq, hold_id g0 g1] at hnr
        have hs := sat_le (a := k.1) (b := g) (by omega) g0
        by_cases hc : k0.2 = X.cur
        · have e2 := h.ids_ks hm0 hmc (hc.trans hc2.symm)
          have e3 : k0.1 = e.v := congrArg Prod.fst e2
          omega
        · have := hlow hc
          omega
      · rw [if_neg hnr] at hi
        have e1 := h.ids_ks hme hkm hi
        have e2 : e.v = k.1 := congrArg Prod.fst e1
        by_cases hc : k0.2 = X.cur
        · have e3 := h.ids_ks hm0 hmc (hc.trans hc2.symm)
          have e4 : k0.1 = c.v := congrArg Prod.fst e3
          exfalso
          apply hnr
          unfold nearB
          rw [decide_eq_true_eq, hold_id g0 g1]
          have h5 := head_least hh he
          have hs := sat_ge (a := k.1) (b := g) (by omega) g0
          omega
        · have := hlow hc
          omega
theorem yield_cur (h : X.ok) (hl : X.led) {g : Int} (g0 : 0 ≤ g) (g1 : g ≤ 65535) {e : En} (he : e ∈ X.L) (hi : e.id = X.yieldI g) : e.v ≤ X.mn + g := by
  unfold QS.yieldI at hi
  split at hi
  · rename_i k c hf hg
    split at hi
    · rename_i hnr
      obtain ⟨k0, hh⟩ := head_some he
      have h0 := hl k0 hh
      have hm0 : k0 ∈ ksOf X.L := List.mem_of_mem_head? (by rw [hh]; rfl)
      have hme : e.key ∈ ksOf X.L := (ksOf_mem _ _).2 (List.mem_map.2 ⟨e, he, rfl⟩)
      obtain ⟨hc1, hc2⟩ := QS.get_some hg
      have hmc : c.key ∈ ksOf X.L := (ksOf_mem _ _).2 (List.mem_map.2 ⟨c, hc1, rfl⟩)
      have e2 : e.v = k.1 := congrArg Prod.fst (h.ids_ks hme (QS.firstK_mem hf).1 hi)
      have b1 := (h.ents c hc1).v1
      unfold nearB at hnr
      rw [decide_eq_true_eq, hold_id g0 g1] at hnr
      have hs := sat_le (a := c.v) (b := g) b1 g0
      by_cases hc : k0.2 = X.cur
      · have e4 : k0.1 = c.v := congrArg Prod.fst (h.ids_ks hm0 hmc (hc.trans hc2.symm))
        omega
      · have := first_le_head h hf hh hc
        omega
    · exact pick_cur h hl g0 g1 he hi
  · exact pick_cur h hl g0 g1 he hi
theorem turn_cur (h : X.ok) (hl : X.led) {g : Int} (g0 : 0 ≤ g) (g1 : g ≤ 65535) (y : Bool) {e : En} (he : e ∈ X.L) (hi : e.id = (turnQ X g y).cur) : e.v ≤ X.mn + g := by
  cases y
  · exact pick_cur h hl g0 g1 he hi
  · exact yield_cur (X := pickQ X g) (h.at_ (h.pickI_ok g)) hl g0 g1 he hi
end

end Go.Proofs.Ytkemhcokkaanfaa
