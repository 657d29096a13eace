/-
  What may be done with a queue, as lists.
-/
import Derived.Test.YtkemhcokkaanfaaQ1
import Derived.Test.YtkemhcokkaanfaaFix
import Derived.Test.YtkemhcokkaanfaaMul
namespace Go.Proofs.Ytkemhcokkaanfaa
open Go.RowKit Go.Maps

section
variable {X : QS} {L : List En} {e e' : En}
theorem En.same (hn : (L.map (·.id)).Nodup) {x y : En} (hx : x ∈ L) (hy : y ∈ L) (h : x.id = y.id) : x = y := by
  induction L with
  | nil => simp at hx
  | cons a L ih =>
    rw [List.map_cons, List.nodup_cons] at hn
    rw [List.mem_cons] at hx hy
    rcases hx with rfl | hx <;> rcases hy with rfl | hy
    · rfl
    · exact absurd (List.mem_map.2 ⟨y, hy, h.symm⟩) hn.1
    · exact absurd (List.mem_map.2 ⟨x, hx, h⟩) hn.1
    · exact ih hn.2 hx hy
theorem En.same_key (hn : (L.map (·.id)).Nodup) {x y : En} (hx : x ∈ L) (hy : y ∈ L) (h : x.key.2 = y.key.2) : x = y := En.same hn hx hy h
theorem QS.get_some {i : Int} (h : X.get i = some e) : e ∈ X.L ∧ e.id = i := ⟨List.mem_of_find?_eq_some h, by simpa using List.find?_some h⟩
theorem QS.get_none {i : Int} (h : X.get i = none) : i ∉ X.L.map (·.id) := by
  intro hm
  obtain ⟨x, hx, rfl⟩ := List.mem_map.1 hm
  have := List.find?_eq_none.1 h x hx
  simp at this
theorem QS.ok.get (h : X.ok) (he : e ∈ X.L) : X.get e.id = some e := by
  cases hg : X.get e.id with
  | none => exact absurd (List.mem_map.2 ⟨e, he, rfl⟩) (QS.get_none hg)
  | some x =>
    obtain ⟨hx, hi⟩ := QS.get_some hg
    rw [En.same h.ids hx he hi]
theorem head_mem {k : Int × Int} (h : (ksOf L).head? = some k) : ∃ x, x ∈ L ∧ x.key = k := by
  have := (ksOf_mem L k).1 (List.mem_of_mem_head? (by rw [h]; rfl))
  simpa using List.mem_map.1 this
theorem ksOf_ent {k : Int × Int} (h : k ∈ ksOf L) : ∃ x, x ∈ L ∧ x.key = k := List.mem_map.1 ((ksOf_mem L k).1 h)

/-- the least vruntime goes on -/
def QS.raise (X : QS) : QS := { X with mn := match (ksOf X.L).head? with | none => X.mn | some k => max X.mn k.1 }
theorem QS.ok.raise (h : X.ok) : X.raise.ok := by
  refine ⟨h.ents, h.ids, h.len, h.cur, ?_, ?_⟩
  · show _ ≤ (match (ksOf X.L).head? with | none => X.mn | some k => max X.mn k.1)
    have := h.m1
    split
    · exact this
    · exact Int.le_trans this (Int.le_max_left _ _)
  · show (match (ksOf X.L).head? with | none => X.mn | some k => max X.mn k.1) ≤ _
    have := h.m2
    split
    · omega
    · rename_i k hk
      obtain ⟨x, hx, rfl⟩ := head_mem hk
      have := (h.ents x hx).v2
      show max X.mn x.v ≤ _
      omega
/-- one more -/
def QS.add (X : QS) (e : En) : QS := { X with L := X.L ++ [e] }
theorem QS.ok.add (h : X.ok) (he : e.ok) (hn : e.id ∉ X.L.map (·.id)) (hl : X.L.length < 128) : (X.add e).ok := by
  refine ⟨fun x hx => ?_, ?_, ?_, ?_, h.m1, h.m2⟩
  · rcases List.mem_append.1 hx with hx | hx
    · exact h.ents x hx
    · rw [List.mem_singleton.1 hx]; exact he
  · show ((X.L ++ [e]).map _).Nodup
    rw [List.map_append, List.nodup_append]
    refine ⟨h.ids, by simp, fun a ha b hb => ?_⟩
    rw [List.map_cons, List.map_nil, List.mem_singleton] at hb
    subst hb
    rintro rfl
    exact hn ha
  · show (X.L ++ [e]).length ≤ 128
    rw [List.length_append]; simp; omega
  · rcases h.cur with hc | ⟨x, hx, hc⟩
    · exact .inl hc
    · exact .inr ⟨x, List.mem_append_left _ hx, hc⟩
/-- without one -/
def lessL (L : List En) (i : Int) : List En := L.filter fun x => decide (x.id ≠ i)
theorem lessL_mem {i : Int} {x : En} : x ∈ lessL L i ↔ x ∈ L ∧ x.id ≠ i := by simp [lessL]
def QS.drop (X : QS) (i : Int) : QS := { X with L := lessL X.L i, cur := if X.cur = i then -1 else X.cur }
theorem QS.ok.drop (h : X.ok) (i : Int) : (X.drop i).ok := by
  refine ⟨fun x hx => h.ents x (lessL_mem.1 hx).1, ?_, ?_, ?_, h.m1, h.m2⟩
  · exact (List.filter_sublist.map _).nodup h.ids
  · exact Nat.le_trans (List.length_filter_le _ _) h.len
  · show (if X.cur = i then -1 else X.cur) = -1 ∨ ∃ x, x ∈ lessL X.L i ∧ x.id = (if X.cur = i then -1 else X.cur)
    by_cases hc : X.cur = i
    · rw [if_pos hc]; exact .inl rfl
    · rw [if_neg hc]
      rcases h.cur with hx | ⟨x, hx, hxc⟩
      · exact .inl hx
      · exact .inr ⟨x, lessL_mem.2 ⟨hx, by rw [hxc]; exact hc⟩, hxc⟩
/-- one in another one's place -/
def setL (L : List En) (e : En) : List En := L.map fun x => if x.id = e.id then e else x
theorem setL_ids (L : List En) (e : En) : (setL L e).map (·.id) = L.map (·.id) := by
  rw [setL, List.map_map]
  refine List.map_congr_left fun x _ => ?_
  show (if x.id = e.id then e else x).id = x.id
  split
  · rename_i h; exact h.symm
  · rfl
theorem setL_mem {x : En} (h : x ∈ setL L e) : x = e ∨ x ∈ L ∧ x.id ≠ e.id := by
  obtain ⟨y, hy, rfl⟩ := List.mem_map.1 h
  by_cases hc : y.id = e.id
  · rw [if_pos hc]; exact .inl rfl
  · rw [if_neg hc]; exact .inr ⟨hy, hc⟩
theorem setL_has {x : En} (h : x ∈ L) (hc : x.id ≠ e.id) : x ∈ setL L e := List.mem_map.2 ⟨x, h, if_neg hc⟩
theorem setL_self (h : e ∈ L) (hi : e'.id = e.id) : e' ∈ setL L e' := List.mem_map.2 ⟨e, h, if_pos hi.symm⟩
theorem setL_len (L : List En) (e : En) : (setL L e).length = L.length := by simp [setL]
def QS.set (X : QS) (e : En) : QS := { X with L := setL X.L e }
theorem QS.ok.set (h : X.ok) (he : e'.ok) : (X.set e').ok := by
  refine ⟨fun x hx => ?_, ?_, ?_, ?_, h.m1, h.m2⟩
  · rcases setL_mem hx with rfl | hx
    · exact he
    · exact h.ents x hx.1
  · show ((setL X.L e').map _).Nodup
    rw [setL_ids]; exact h.ids
  · show (setL X.L e').length ≤ 128
    rw [setL_len]; exact h.len
  · rcases h.cur with hc | ⟨x, hx, hc⟩
    · exact .inl hc
    · by_cases hi : x.id = e'.id
      · exact .inr ⟨e', setL_self hx hi.symm, by rw [← hi]; exact hc⟩
      · exact .inr ⟨x, setL_has hx hi, hc⟩

/-! the keys -/
theorem up_filter {l : List (Int × Int)} (h : Up l) (p : Int × Int → Bool) : Up (l.filter p) := h.filter _
theorem ksOf_less (hn : (L.map (·.id)).Nodup) (he : e ∈ L) : ksOf (lessL L e.id) = (ksOf L).filter (fun y => decide (y ≠ e.key)) := by
  refine up_unique (ksOf_up _) (up_filter (ksOf_up _) _) fun x => ?_
  rw [List.mem_filter, ksOf_mem, ksOf_mem, List.mem_map, List.mem_map, decide_eq_true_eq]
  constructor
  · rintro ⟨y, hy, rfl⟩
    obtain ⟨h1, h2⟩ := lessL_mem.1 hy
    exact ⟨⟨y, h1, rfl⟩, fun h => h2 (congrArg Prod.snd h)⟩
  · rintro ⟨⟨y, hy, rfl⟩, h⟩
    exact ⟨y, lessL_mem.2 ⟨hy, fun hi => h (by rw [En.same hn hy he hi])⟩, rfl⟩
theorem ksOf_set (hn : (L.map (·.id)).Nodup) (he : e ∈ L) (hi : e'.id = e.id) : ksOf (setL L e') = insK e'.key ((ksOf L).filter (fun y => decide (y ≠ e.key))) := by
  refine up_unique (ksOf_up _) (insK_up _ _ (up_filter (ksOf_up _) _)) fun x => ?_
  rw [insK_mem, List.mem_filter, ksOf_mem, ksOf_mem, List.mem_map, List.mem_map, decide_eq_true_eq]
  constructor
  · rintro ⟨y, hy, rfl⟩
    rcases setL_mem hy with rfl | ⟨h1, h2⟩
    · exact .inl rfl
    · exact .inr ⟨⟨y, h1, rfl⟩, fun h => h2 (by rw [hi]; exact congrArg Prod.snd h)⟩
  · rintro (rfl | ⟨⟨y, hy, rfl⟩, h⟩)
    · exact ⟨e', setL_self he hi, rfl⟩
    · exact ⟨y, setL_has hy (fun hc => h (by rw [En.same hn hy he (hc.trans hi)])), rfl⟩
theorem ksOf_set_same (hn : (L.map (·.id)).Nodup) (he : e ∈ L) (hk : e'.key = e.key) : ksOf (setL L e') = ksOf L := by
  have hi : e'.id = e.id := congrArg Prod.snd hk
  refine up_unique (ksOf_up _) (ksOf_up _) fun x => ?_
  rw [ksOf_mem, ksOf_mem, List.mem_map, List.mem_map]
  constructor
  · rintro ⟨y, hy, rfl⟩
    rcases setL_mem hy with rfl | ⟨h1, h2⟩
    · exact ⟨e, he, hk.symm⟩
    · exact ⟨y, h1, rfl⟩
  · rintro ⟨y, hy, rfl⟩
    by_cases hc : y.id = e'.id
    · rw [En.same hn hy he (hc.trans hi)]
      exact ⟨e', setL_self he hi, hk⟩
    · exact ⟨y, setL_has hy hc, rfl⟩
theorem load_less (hn : (L.map (·.id)).Nodup) (he : e ∈ L) : loadL L = e.wt + loadL (lessL L e.id) := by
  induction L with
  | nil => simp at he
  | cons a L ih =>
    rw [List.map_cons, List.nodup_cons] at hn
    by_cases hc : a.id = e.id
    · have ha : a = e := by
        rcases List.mem_cons.1 he with h | h
        · exact h.symm
        · exact absurd (List.mem_map.2 ⟨e, h, hc.symm⟩) hn.1
      subst ha
      have e2 : lessL (a :: L) a.id = L := by
        unfold lessL
        rw [List.filter_cons]
        simp only [ne_eq, not_true_eq_false, decide_false, Bool.false_eq_true, if_false]
        refine List.filter_eq_self.2 fun x hx => ?_
        simp only [decide_eq_true_eq]
        exact fun h => hn.1 (List.mem_map.2 ⟨x, hx, h⟩)
      rw [e2]
      rfl
    · have hl : e ∈ L := by
        rcases List.mem_cons.1 he with h | h
        · exact absurd (by rw [h]) hc
        · exact h
      have e2 : lessL (a :: L) e.id = a :: lessL L e.id := by
        unfold lessL
        rw [List.filter_cons, if_pos (by simpa using hc)]
      rw [e2]
      have := ih hn.2 hl
      simp only [loadL]
      omega
theorem len_less (hn : (L.map (·.id)).Nodup) (he : e ∈ L) : L.length = (lessL L e.id).length + 1 := by
  induction L with
  | nil => simp at he
  | cons a L ih =>
    rw [List.map_cons, List.nodup_cons] at hn
    by_cases hc : a.id = e.id
    · have e2 : lessL (a :: L) e.id = L := by
        unfold lessL
        rw [List.filter_cons, if_neg (by simpa using hc)]
        refine List.filter_eq_self.2 fun x hx => ?_
        simp only [ne_eq, decide_eq_true_eq]
        exact fun h => hn.1 (List.mem_map.2 ⟨x, hx, by rw [h, hc]⟩)
      rw [e2]
      rfl
    · have hl : e ∈ L := by
        rcases List.mem_cons.1 he with h | h
        · exact absurd (by rw [h]) hc
        · exact h
      have e2 : lessL (a :: L) e.id = a :: lessL L e.id := by
        unfold lessL
        rw [List.filter_cons, if_pos (by simpa using hc)]
      rw [e2, List.length_cons, List.length_cons, ih hn.2 hl]
theorem load_set (hn : (L.map (·.id)).Nodup) (he : e ∈ L) (hi : e'.id = e.id) : loadL (setL L e') + e.wt = loadL L + e'.wt := by
  have h1 := load_less hn he
  have h2 : loadL (setL L e') = e'.wt + loadL (lessL (setL L e') e'.id) := load_less (by rw [setL_ids]; exact hn) (setL_self he hi)
  have h3 : lessL (setL L e') e'.id = lessL L e.id := by
    rw [hi]
    unfold lessL setL
    rw [List.filter_map]
    have : ∀ (M : List En), (M.filter ((fun x => decide (x.id ≠ e.id)) ∘ fun x => if x.id = e'.id then e' else x)).map (fun x => if x.id = e'.id then e' else x) = M.filter fun x => decide (x.id ≠ e.id) := by
      intro M
      induction M with
      | nil => rfl
      | cons a M ih =>
        by_cases hc : a.id = e.id
        · rw [List.filter_cons, List.filter_cons, if_neg (by simp [hi, hc]), if_neg (by simp [hc]), ih]
        · rw [List.filter_cons, List.filter_cons, if_pos (by simp [hi, hc]), if_pos (by simp [hc]), List.map_cons, ih, if_neg (by rw [hi]; exact hc)]
    exact this L
  rw [h3] at h2
  omega

/-! the first of all but the current one -/
def QS.firstK (X : QS) : Option (Int × Int) := (ksOf X.L).find? fun k => decide (k.2 ≠ X.cur)
theorem QS.ok.ids_ks (h : X.ok) {a b : Int × Int} (ha : a ∈ ksOf X.L) (hb : b ∈ ksOf X.L) (hab : a.2 = b.2) : a = b := by
  obtain ⟨x, hx, rfl⟩ := ksOf_ent ha
  obtain ⟨y, hy, rfl⟩ := ksOf_ent hb
  rw [En.same h.ids hx hy hab]
theorem QS.ok.firstK_none (_h : X.ok) (hh : (ksOf X.L).head? = none) : X.firstK = none := by
  rw [List.head?_eq_none_iff] at hh
  unfold QS.firstK
  rw [hh]
  rfl
theorem QS.ok.firstK_other (_h : X.ok) {k : Int × Int} (hh : (ksOf X.L).head? = some k) (hc : k.2 ≠ X.cur) : X.firstK = some k := by
  unfold QS.firstK
  cases hl : ksOf X.L with
  | nil => rw [hl] at hh; simp at hh
  | cons a r =>
    rw [hl] at hh
    obtain rfl : a = k := by simpa using hh
    rw [List.find?_cons, show decide (a.2 ≠ X.cur) = true from decide_eq_true hc]
theorem QS.ok.firstK_next (h : X.ok) {k : Int × Int} (hh : (ksOf X.L).head? = some k) (hc : k.2 = X.cur) : (ksOf X.L).find? (fun y => decide (keyLt k y)) = X.firstK := by
  unfold QS.firstK
  have hu := ksOf_up X.L
  have hid := fun a b ha hb => h.ids_ks (a := a) (b := b) ha hb
  cases hl : ksOf X.L with
  | nil => rw [hl] at hh; simp at hh
  | cons a r =>
    rw [hl] at hh hu hid
    obtain rfl : a = k := by simpa using hh
    rw [Up, List.pairwise_cons] at hu
    rw [List.find?_cons, List.find?_cons, show decide (keyLt a a) = false from decide_eq_false (keyLt_irrefl a), show decide (a.2 ≠ X.cur) = false from decide_eq_false (fun h => h hc)]
    cases r with
    | nil => rfl
    | cons b r =>
      have hb : b.2 ≠ X.cur := fun e => by
        have := hid b a (by simp) (by simp) (e.trans hc.symm)
        subst this
        exact keyLt_irrefl _ (hu.1 _ (by simp))
      simp only
      rw [List.find?_cons, List.find?_cons, show decide (keyLt a b) = true from decide_eq_true (hu.1 b (by simp)), show decide (b.2 ≠ X.cur) = true from decide_eq_true hb]
theorem QS.firstK_mem {k : Int × Int} (h : X.firstK = some k) : k ∈ ksOf X.L ∧ k.2 ≠ X.cur := ⟨List.mem_of_find?_eq_some h, by simpa using List.find?_some h⟩

/-- is a vruntime not above another one and gran? -/
def nearB (a b gran : Int) : Bool := decide (a ≤ satZ b (holdZ gran 0 1099511627776))
def QS.pickI (X : QS) (gran : Int) : Int := match X.firstK, X.get X.cur with
  | none, _ => X.cur
  | some k, none => k.2
  | some k, some c => if nearB c.v k.1 gran then X.cur else k.2
def QS.yieldI (X : QS) (gran : Int) : Int := match X.firstK, X.get X.cur with
  | some k, some c => if nearB k.1 c.v gran then k.2 else X.pickI gran
  | _, _ => X.pickI gran
def QS.at_ (X : QS) (c : Int) : QS := { X with cur := c }
theorem QS.ok.at_ (h : X.ok) {c : Int} (hc : c = -1 ∨ ∃ x, x ∈ X.L ∧ x.id = c) : (X.at_ c).ok := ⟨h.ents, h.ids, h.len, hc, h.m1, h.m2⟩
def pickQ (X : QS) (gran : Int) : QS := X.at_ (X.pickI gran)
def yieldQ (X : QS) (gran : Int) : QS := X.at_ (X.yieldI gran)
theorem QS.ok.first_ent (_h : X.ok) {k : Int × Int} (hk : X.firstK = some k) : ∃ x, x ∈ X.L ∧ x.id = k.2 ∧ x.v = k.1 := by
  obtain ⟨x, hx, rfl⟩ := ksOf_ent (QS.firstK_mem hk).1
  exact ⟨x, hx, rfl, rfl⟩
theorem QS.ok.pickI_ok (h : X.ok) (gran : Int) : X.pickI gran = -1 ∨ ∃ x, x ∈ X.L ∧ x.id = X.pickI gran := by
  unfold QS.pickI
  split
  · exact h.cur
  · rename_i k hk _
    obtain ⟨x, hx, hi, _⟩ := h.first_ent hk
    exact .inr ⟨x, hx, hi⟩
  · rename_i k c hk _
    split
    · exact h.cur
    · obtain ⟨x, hx, hi, _⟩ := h.first_ent hk
      exact .inr ⟨x, hx, hi⟩
theorem QS.ok.yieldI_ok (h : X.ok) (gran : Int) : X.yieldI gran = -1 ∨ ∃ x, x ∈ X.L ∧ x.id = X.yieldI gran := by
  unfold QS.yieldI
  split
  · rename_i k c hk _
    split
    · obtain ⟨x, hx, hi, _⟩ := h.first_ent hk
      exact .inr ⟨x, hx, hi⟩
    · exact h.pickI_ok gran
  · exact h.pickI_ok gran
/-- all, in order -/
def QS.ents (X : QS) : List En := (ksOf X.L).map fun k => (X.get k.2).getD ⟨0, 0, 0, 0⟩

/-! what is told, and what comes of it -/
def putC (X : QS) (e : En) : Int :=
  if e.id < 0 then 1 else if e.wt < 2 ∨ 262144 < e.wt then 4 else if e.wt ≤ e.rem then 1 else if e.id ∈ X.L.map (·.id) then 6 else if X.L.length = 128 then 3 else 0
def putQ (X : QS) (e : En) : QS := if putC X e = 0 then (X.add e).raise else X
def dropQ (X : QS) (i : Int) : QS := if i ∈ X.L.map (·.id) then (X.drop i).raise else X
def weighed (e : En) (w : Nat) : En := { e with wt := w, rem := mdQ e.rem w e.wt }
def weighC (X : QS) (i : Int) (w : Nat) : Int := if i ∈ X.L.map (·.id) then (if w < 2 ∨ 262144 < w then 4 else 0) else 12
def weighQ (X : QS) (i : Int) (w : Nat) : QS := match X.get i with
  | none => X
  | some e => if w < 2 ∨ 262144 < w then X else X.set (weighed e w)
def charged (e : En) (ns : Nat) : En := { e with v := satZ e.v (((e.rem + ns * 1024) / e.wt : Nat) : Int), rem := (e.rem + ns * 1024) % e.wt }
def chargeC (X : QS) (ns : Nat) : Int := if X.cur = -1 then 7 else if 1000000000 < ns then 8 else 0
def chargeQ (X : QS) (ns : Nat) : QS := match X.get X.cur with
  | none => X
  | some e => if 1000000000 < ns then X else ({ X.set (charged e ns) with over := X.over || overZ e.v (((e.rem + ns * 1024) / e.wt : Nat) : Int) }).raise
theorem putC_ok {X : QS} (hn : e.id ≤ 9223372036854775807) (hv : -9223372036854775808 ≤ e.v ∧ e.v ≤ 9223372036854775807) (h : putC X e = 0) : e.ok ∧ e.id ∉ X.L.map (·.id) ∧ X.L.length ≠ 128 := by
  unfold putC at h
  split at h
  · simp at h
  split at h
  · simp at h
  split at h
  · simp at h
  split at h
  · simp at h
  split at h
  · simp at h
  rename_i h1 h2 h3 h4 h5
  exact ⟨⟨by omega, hn, by omega, by omega, hv.1, hv.2, by omega⟩, h4, h5⟩
theorem QS.ok.put (h : X.ok) (hn : e.id ≤ 9223372036854775807) (hv : -9223372036854775808 ≤ e.v ∧ e.v ≤ 9223372036854775807) : (putQ X e).ok := by
  unfold putQ
  split
  · rename_i hc
    obtain ⟨h1, h2, h3⟩ := putC_ok hn hv hc
    have := h.len
    exact (h.add h1 h2 (by omega)).raise
  · exact h
theorem QS.ok.dropQ (h : X.ok) (i : Int) : (dropQ X i).ok := by
  unfold Go.Proofs.Ytkemhcokkaanfaa.dropQ
  split
  · exact (h.drop i).raise
  · exact h
end

end Go.Proofs.Ytkemhcokkaanfaa
