/-
  HierServes: who is on the way down, and what a charge does to each queue.
  HierServes: the rows that were; a charge that leaves them; whom one asks for in each queue.
  HierServes: whom one asks for in each queue, as the law reckons it.
-/
import Derived.Test.YtefekboacghnjaaMt
import Derived.Test.YtefekboacghnjaaMw
import Derived.Test.YtefekboacghnjaaMs

namespace Go.Proofs.Ytefekboacghnjaa
open Go.RowKit Go.Maps

/-- the groups on the way down -/
def wayL : Nat → HS → Nat → List Nat
  | 0, _, _ => []
  | n + 1, S, i =>
    match S.G i with
    | none => []
    | some x => if x.q.cur < 0 ∨ x.q.cur % 2 = 0 then [i] else i :: wayL n S (x.q.cur / 2).toNat
def SameCur (S S' : HS) : Prop := ∀ j, (S'.G j).map (·.q.cur) = (S.G j).map (·.q.cur)
theorem SameCur.some_ {S S' : HS} (h : SameCur S S') {j : Nat} {x : Gr} (hx : S.G j = some x) : ∃ x', S'.G j = some x' ∧ x'.q.cur = x.q.cur := by
  have := h j
  rw [hx] at this
  cases hx' : S'.G j with
  | none => rw [hx'] at this; simp at this
  | some x' =>
    rw [hx'] at this
    injection this with this
    exact ⟨x', rfl, this⟩
theorem SameCur.none_ {S S' : HS} (h : SameCur S S') {j : Nat} (hx : S.G j = none) : S'.G j = none := by
  have := h j
  rw [hx] at this
  cases hx' : S'.G j with
  | none => rfl
  | some x' => rw [hx'] at this; simp at this
theorem wayL_congr {S S' : HS} (h : SameCur S S') : ∀ n i, wayL n S' i = wayL n S i
  | 0, _ => rfl
  | n + 1, i => by
    unfold wayL
    cases hx : S.G i with
    | none => rw [h.none_ hx]
    | some x =>
      obtain ⟨x', hx', hc⟩ := h.some_ hx
      rw [hx']
      dsimp only
      rw [hc, wayL_congr h n]
theorem wayF_congr {S S' : HS} (h : SameCur S S') : ∀ n i, (wayF curN n S' i).2 = (wayF curN n S i).2
  | 0, _ => rfl
  | n + 1, i => by
    have e : (curN S' i).2 = (curN S i).2 := by
      unfold curN
      cases hx : S.G i with
      | none => rw [h.none_ hx]
      | some x =>
        obtain ⟨x', hx', hc⟩ := h.some_ hx
        rw [hx']
        exact hc
    unfold wayF
    rw [e]
    split
    · exact e
    · exact wayF_congr h n _
theorem SameCur.put {S : HS} {i : Nat} {x y : Gr} (hx : S.G i = some x) (h : y.q.cur = x.q.cur) : SameCur S (S.put i (some y)) := fun j => by
  by_cases hj : j = i
  · rw [hj, HS.put_same, hx]
    exact congrArg some h
  · rw [HS.put_other _ _ hj]
theorem SameCur.trans {S S' S'' : HS} (a : SameCur S S') (b : SameCur S' S'') : SameCur S S'' := fun j => (b j).trans (a j)
theorem charge_samecur (ns : Nat) : ∀ n S i, SameCur S (chargeF ns n S i)
  | 0, S, _ => fun _ => rfl
  | n + 1, S, i => by
    unfold chargeF
    cases hx : S.G i with
    | none => exact fun _ => rfl
    | some x =>
      dsimp only
      have h1 : SameCur S (S.put i (some { x with q := chargeQ x.q ns })) := SameCur.put hx (chargeQ_cur _ _)
      split
      · exact h1
      · exact h1.trans (charge_samecur ns n _ _)
theorem wayL_none {S : HS} {i : Nat} (h : S.G i = none) (n : Nat) : wayL (n + 1) S i = [] := by
  unfold wayL
  rw [h]
theorem wayL_some {S : HS} {i : Nat} {x : Gr} (h : S.G i = some x) (n : Nat) : wayL (n + 1) S i = if x.q.cur < 0 ∨ x.q.cur % 2 = 0 then [i] else i :: wayL n S (x.q.cur / 2).toNat := by
  show (match S.G i with | none => [] | some x => if x.q.cur < 0 ∨ x.q.cur % 2 = 0 then [i] else i :: wayL n S (x.q.cur / 2).toNat) = _
  rw [h]
theorem chargeF_at (ns : Nat) : ∀ n S i, (wayL n S i).Nodup → ∀ j, (chargeF ns n S i).G j = if j ∈ wayL n S i then (S.G j).map (fun x => { x with q := chargeQ x.q ns }) else S.G j
  | 0, S, i, _, j => by simp [wayL, chargeF]
  | n + 1, S, i, hn, j => by
    have hm : ∀ l : List Nat, wayL (n + 1) S i = l → (j ∈ wayL (n + 1) S i ↔ j ∈ l) := fun l h => by rw [h]
    unfold chargeF
    cases hx : S.G i with
    | none =>
      rw [if_neg (fun h => by
        rw [wayL_none hx] at h
        simp at h)]
    | some x =>
      rw [wayL_some hx] at hn
      dsimp only
      by_cases hc : x.q.cur < 0 ∨ x.q.cur % 2 = 0
      · have hl : wayL (n + 1) S i = [i] := by rw [wayL_some hx, if_pos hc]
        rw [if_pos hc]
        by_cases hj : j = i
        · rw [if_pos ((hm _ hl).2 (List.mem_singleton.2 hj)), hj, HS.put_same, hx]
          rfl
        · rw [HS.put_other _ _ hj, if_neg (fun h => hj (List.mem_singleton.1 ((hm _ hl).1 h)))]
      · have hl : wayL (n + 1) S i = i :: wayL n S (x.q.cur / 2).toNat := by rw [wayL_some hx, if_neg hc]
        rw [if_neg hc] at hn
        rw [if_neg hc]
        have h1 : SameCur S (S.put i (some { x with q := chargeQ x.q ns })) := SameCur.put hx (chargeQ_cur _ _)
        have hni := (List.nodup_cons.1 hn).1
        have hw := wayL_congr h1 n (x.q.cur / 2).toNat
        have ih := chargeF_at ns n (S.put i (some { x with q := chargeQ x.q ns })) (x.q.cur / 2).toNat (by rw [hw]; exact (List.nodup_cons.1 hn).2) j
        rw [ih]
        by_cases hj : j = i
        · subst hj
          rw [if_neg (fun h => hni (hw ▸ h)), if_pos ((hm _ hl).2 List.mem_cons_self), HS.put_same, hx]
          rfl
        · rw [HS.put_other _ _ hj]
          by_cases hin : j ∈ wayL n S (x.q.cur / 2).toNat
          · rw [if_pos (show j ∈ wayL n (S.put i (some { x with q := chargeQ x.q ns })) (x.q.cur / 2).toNat by rw [hw]; exact hin), if_pos ((hm _ hl).2 (List.mem_cons_of_mem _ hin))]
          · rw [if_neg (show ¬(j ∈ wayL n (S.put i (some { x with q := chargeQ x.q ns })) (x.q.cur / 2).toNat) by rw [hw]; exact hin), if_neg (fun h => by
              rcases List.mem_cons.1 ((hm _ hl).1 h) with h | h
              · exact hj h
              · exact hin h)]

/-- a task's group, and those above it -/
def pathN (n : Nat) : List Nat := [homeN n, parN (homeN n), parN (parN (homeN n)), parN (parN (parN (homeN n)))]
/-- whom one asks for in a group's queue while a task runs -/
def wantT (n u : Nat) : Int :=
  if u = homeN n then 2 * (n : Int) else if u = parN (homeN n) then 2 * ((homeN n : Nat) : Int) + 1 else if u = parN (parN (homeN n)) then 2 * ((parN (homeN n) : Nat) : Int) + 1
  else if u = parN (parN (parN (homeN n))) then 2 * ((parN (parN (homeN n)) : Nat) : Int) + 1 else -1
theorem path_step (n : Nat) (hn : n < 8) (k : Nat) (hk : k < 6) (h0 : k ≠ 0) (h : k ∈ pathN n) : parN k ∈ pathN n ∧ wantT n (parN k) = 2 * (k : Int) + 1 := by
  have key : ∀ n : Fin 8, ∀ k : Fin 6, k.1 ≠ 0 → k.1 ∈ pathN n.1 → parN k.1 ∈ pathN n.1 ∧ wantT n.1 (parN k.1) = 2 * (k.1 : Int) + 1 := by decide +kernel
  exact key ⟨n, hn⟩ ⟨k, hk⟩ h0 h
theorem want_home (n : Nat) : wantT n (homeN n) = 2 * (n : Int) := if_pos rfl
theorem want_none {n u : Nat} (h : u ∉ pathN n) : wantT n u = -1 := by
  unfold pathN at h
  simp only [List.mem_cons, List.not_mem_nil, or_false, not_or] at h
  unfold wantT
  rw [if_neg h.1, if_neg h.2.1, if_neg h.2.2.1, if_neg h.2.2.2]
section
variable {c g : Int} {X : FSt}
theorem FOk.way (O : FOk c g X) : ∀ (n i : Nat) (x : Gr), X.S.G i = some x → wayOk curN n X.S i → 0 ≤ (wayF curN n X.S i).2 →
    ∃ n0 : Nat, n0 < 8 ∧ (wayF curN n X.S i).2 = 2 * (n0 : Int) ∧ i ∈ pathN n0 ∧ homeN n0 ∈ wayL n X.S i ∧ i ∈ wayL n X.S i ∧ (wayL n X.S i).Nodup ∧
      (∀ j, j ∈ wayL n X.S i → ∃ z, X.S.G j = some z ∧ z.q.cur = wantT n0 j ∧ x.deep ≤ z.deep) ∧ ∀ j, j ∈ wayL n X.S i → j ≠ i → parN j ∈ wayL n X.S i
  | 0, _, _, _, h, _ => (h : False).elim
  | n + 1, i, x, hx, ⟨_, _, _, h4⟩, hm => by
    have ec : (curN X.S i).2 = x.q.cur := by unfold curN; rw [hx]
    have e1 : (curN X.S i).1 = X.S := rfl
    have hok := O.good.inv.qok i x hx
    unfold wayF at hm ⊢
    rw [ec, e1] at hm h4 ⊢
    rw [wayL_some hx]
    by_cases hc : x.q.cur < 0 ∨ x.q.cur % 2 = 0
    · rw [if_pos hc, ec] at hm
      rw [if_pos hc, if_pos hc, ec]
      rcases hok.cur with h1 | ⟨e, he, hid⟩
      · omega
      · obtain ⟨n0, k1, k2, k3⟩ := O.ids i x hx e he (by omega)
        refine ⟨n0, k1, by omega, by rw [← k3]; exact List.mem_cons_self, by rw [k3]; exact List.mem_singleton.2 rfl, List.mem_singleton.2 rfl, List.nodup_cons.2 ⟨by simp, List.nodup_nil⟩, fun j hj => ?_, fun j hj hne => absurd (List.mem_singleton.1 hj) hne⟩
        rw [List.mem_singleton.1 hj]
        exact ⟨x, hx, by rw [← k3, want_home]; omega, Nat.le_refl _⟩
    · rw [if_neg hc] at hm
      rw [if_neg hc, if_neg hc]
      rcases hok.cur with h1 | ⟨e, he, hid⟩
      · omega
      · rcases O.good.inv.ids i x hx e he with ⟨t, _, h3⟩ | ⟨k, y, h1, h0, hk, hup, _⟩
        · omega
        · have hkc : (x.q.cur / 2).toNat = k := by omega
          rw [hkc] at hm h4 ⊢
          have hk6 := O.lt6 hk
          have hpar : parN k = i := by
            obtain ⟨y', hy', hu⟩ := O.link k hk6
            rw [hk] at hy'
            injection hy' with hy'
            subst hy'
            have := hu h0
            omega
          obtain ⟨u, p, u1, u2, u3⟩ := O.good.inv.tree.up k y h0 hk
          have hui : u = i := by omega
          subst hui
          rw [hx] at u2
          injection u2 with u2
          subst u2
          obtain ⟨n0, a1, a2, a3, a4, a5, a6, a7, a8⟩ := FOk.way O n k y hk (h4.resolve_left hc) hm
          obtain ⟨p1, p2⟩ := path_step n0 a1 k hk6 h0 a3
          rw [hpar] at p1 p2
          refine ⟨n0, a1, a2, p1, List.mem_cons_of_mem _ a4, List.mem_cons_self, List.nodup_cons.2 ⟨fun hin => ?_, a6⟩, fun j hj => ?_, fun j hj hne => ?_⟩
          · obtain ⟨z, z1, _, z3⟩ := a7 u hin
            rw [hx] at z1
            injection z1 with z1
            subst z1
            omega
          · rcases List.mem_cons.1 hj with rfl | hj
            · exact ⟨x, hx, by omega, Nat.le_refl _⟩
            · obtain ⟨z, z1, z2, z3⟩ := a7 j hj
              exact ⟨z, z1, z2, by omega⟩
          · rcases List.mem_cons.1 hj with rfl | hj
            · exact absurd rfl hne
            · by_cases hjk : j = k
              · rw [hjk, hpar]
                exact List.mem_cons_self
              · exact List.mem_cons_of_mem _ (a8 j hj hjk)
/-- in a queue where a charge goes: everybody is as he was, but the current one -/
theorem chargeQ_moves {Q : QS} (hok : Q.ok) (ns : Nat) (hns : ns ≤ 100000000) (hv : ∀ e, e ∈ Q.L → -1000000000000 ≤ e.v ∧ e.v ≤ 1000000000000) :
    (chargeQ Q ns).ents.length = Q.ents.length ∧ ∀ e, e ∈ Q.ents → mvE Q.cur ns e ∈ (chargeQ Q ns).ents := by
  have hok' := chargeQ_ok hok ns
  have hp := ents_perm hok
  have hp' := ents_perm hok'
  have hlen : (chargeQ Q ns).L.length = Q.L.length := by
    have := congrArg List.length (chargeQ_ids Q ns)
    simpa using this
  refine ⟨by rw [hp'.length_eq, hp.length_eq, hlen], fun e he => ?_⟩
  have heL := hp.mem_iff.1 he
  refine hp'.mem_iff.2 ?_
  unfold chargeQ
  cases hg : Q.get Q.cur with
  | none =>
    dsimp only
    have hne : e.id ≠ Q.cur := fun h => QS.get_none hg (List.mem_map.2 ⟨e, heL, h⟩)
    unfold mvE
    rw [if_neg hne]
    exact heL
  | some e0 =>
    dsimp only
    rw [if_neg (by omega)]
    show mvE Q.cur ns e ∈ setL Q.L (charged e0 ns)
    obtain ⟨h1, h2⟩ := QS.get_some hg
    by_cases hc : e.id = Q.cur
    · have h3 := hok.get heL
      rw [hc, hg] at h3
      injection h3 with h3
      subst h3
      have hs : mvE Q.cur ns e0 = charged e0 ns := by
        unfold mvE charged
        rw [if_pos h2]
        have ho := hok.ents e0 h1
        have hb := hv e0 h1
        have hd : (e0.rem + ns * 1024) / e0.wt ≤ 1000000000000 := by
          refine Nat.le_trans (Nat.div_le_self _ _) ?_
          have := ho.r
          have := ho.w2
          omega
        generalize (e0.rem + ns * 1024) / e0.wt = dd at *
        rw [satZ_in _ _ (by omega) (by omega)]
      rw [hs]
      exact setL_self h1 rfl
    · unfold mvE
      rw [if_neg hc]
      exact setL_has heL (by show e.id ≠ e0.id; rw [h2]; exact hc)
theorem FOk.serves (O : FOk c g X) (ns : Nat) (hns : ns ≤ 100000000) (hv : ∀ u x, X.S.G u = some x → ∀ e, e ∈ x.q.L → -1000000000000 ≤ e.v ∧ e.v ≤ 1000000000000) :
    (runI 9 X.S = -1) ∨ ∃ n0 : Nat, n0 < 8 ∧ runI 9 X.S = (n0 : Int) ∧ runI 9 (chargeF ns 9 X.S 0) = (n0 : Int) ∧
      ∀ u, u < 6 → (grOf (chargeF ns 9 X.S 0) u).q.ents.length = (grOf X.S u).q.ents.length ∧ ∀ e, e ∈ (grOf X.S u).q.ents → mvE (wantT n0 u) ns e ∈ (grOf (chargeF ns 9 X.S 0) u).q.ents := by
  by_cases hm : (wayF curN 9 X.S 0).2 < 0
  · left
    unfold runI endI
    rw [if_pos hm]
  · right
    obtain ⟨r, e1, _, _⟩ := O.good.inv.tree.root
    obtain ⟨n0, a1, a2, a3, a4, a5, a6, a7, a8⟩ := O.way 9 0 r e1 O.good.cur0 (by omega)
    have hrun : runI 9 X.S = (n0 : Int) := by
      unfold runI endI
      rw [if_neg hm, a2]
      omega
    refine ⟨n0, a1, hrun, ?_, fun u hu => ?_⟩
    · rw [← hrun]
      unfold runI
      rw [wayF_congr (charge_samecur ns 9 X.S 0)]
    · have hu1 := O.at_ hu
      have hat := chargeF_at ns 9 X.S 0 a6 u
      by_cases hin : u ∈ wayL 9 X.S 0
      · rw [if_pos hin, hu1] at hat
        have e2 : grOf (chargeF ns 9 X.S 0) u = { grOf X.S u with q := chargeQ (grOf X.S u).q ns } := O2 hat
        obtain ⟨z, z1, z2, _⟩ := a7 u hin
        rw [hu1] at z1
        injection z1 with z1
        rw [e2]
        have := chargeQ_moves (O.good.inv.qok u _ hu1) ns hns (hv u _ hu1)
        rw [z1] at this ⊢
        rw [← z2]
        exact this
      · rw [if_neg hin, hu1] at hat
        have e2 : grOf (chargeF ns 9 X.S 0) u = grOf X.S u := O2 hat
        have hnp : u ∉ pathN n0 := fun hp => hin (by
          have cl : ∀ j, j ∈ wayL 9 X.S 0 → parN j ∈ wayL 9 X.S 0 := fun j hj => by
            by_cases hj0 : j = 0
            · subst hj0
              exact a5
            · exact a8 j hj hj0
          unfold pathN at hp
          simp only [List.mem_cons, List.not_mem_nil, or_false] at hp
          rcases hp with rfl | rfl | rfl | rfl
          · exact a4
          · exact cl _ a4
          · exact cl _ (cl _ a4)
          · exact cl _ (cl _ (cl _ a4)))
        rw [e2, want_none hnp]
        refine ⟨rfl, fun e he => ?_⟩
        have heL := (ents_perm (O.good.inv.qok u _ hu1)).mem_iff.1 he
        have := ((O.good.inv.qok u _ hu1).ents e heL).i1
        unfold mvE
        rw [if_neg (by omega)]
        exact he
where
  O2 {S : HS} {u : Nat} {y : Gr} (h : S.G u = some y) : grOf S u = y := by
    unfold grOf
    rw [h]
    rfl
end

end Go.Proofs.Ytefekboacghnjaa

namespace Go.Proofs.Ytefekboacghnjaa
open Go.RowKit Go.Maps

theorem cell_same {w w' : World} {b : Nat} (e : w'.heap[b]? = w.heap[b]?) (i : Nat) : w'.cell? ⟨b, i, none⟩ = w.cell? ⟨b, i, none⟩ := by
  unfold World.cell?
  rw [e]
/-- rows that were taken from the queues, in a block of six slices; all from that block on -/
structure WasAt (w : World) (B : Nat) (X : FSt) (u : Nat) : Prop where
  blk : ∃ cs, Blk w B cs 75 ∧ cs.size = 6
  row : ∀ i, i < u → ∃ A c, w.cell? ⟨B, i, none⟩ = some (.slice A (entsF X i).length c) ∧ (entsF X i = [] ∨ ∃ b, A = some ⟨b, 0, none⟩ ∧ B < b ∧ b < w.heap.size ∧ ∀ j, j < (entsF X i).length → EntAt w b (j * 4) ((entsF X i).getD j En.nil))
section
variable {w w' : World} {B u : Nat} {X : FSt}
theorem WasAt.of (a : WasAt w B X u) (hs : w.heap.size ≤ w'.heap.size) (e : ∀ b, B ≤ b → b < w.heap.size → w'.heap[b]? = w.heap[b]?) : WasAt w' B X u := by
  obtain ⟨cs, hb, hc⟩ := a.blk
  have eB := e B (Nat.le_refl _) hb.lt
  refine ⟨⟨cs, hb.of eB, hc⟩, fun i hi => ?_⟩
  obtain ⟨A, c, h1, h2⟩ := a.row i hi
  refine ⟨A, c, (cell_same eB i).trans h1, ?_⟩
  rcases h2 with h2 | ⟨b, k1, k2, k3, k4⟩
  · exact .inl h2
  · exact .inr ⟨b, k1, k2, by omega, fun j hj => (k4 j hj).of (e b (by omega) k3)⟩
theorem WasAt.below (a : WasAt w B X u) (h : Below w.heap.size w w') : WasAt w' B X u := a.of h.size fun b _ hb => h.block b hb
theorem WasAt.lt (a : WasAt w B X u) : B < w.heap.size := by
  obtain ⟨cs, hb, _⟩ := a.blk
  exact hb.lt
theorem WasAt.frozen (a : WasAt w B X u) : ∀ j, w.frozen? ⟨B, j, none⟩ = false := by
  obtain ⟨cs, hb, _⟩ := a.blk
  exact Blk.frozen hb
theorem WasAt.cell (a : WasAt w B X u) {i : Nat} (hi : i < 6) : ∃ v, w.cell? ⟨B, i, none⟩ = some v := by
  obtain ⟨cs, hb, hc⟩ := a.blk
  refine ⟨cs[i]'(by omega), ?_⟩
  rw [Blk.cell hb, Array.getElem?_eq_getElem (by omega)]
/-- one more row is stored -/
theorem WasAt.store (a : WasAt w B X u) (hu : u < 6) {A : Option Addr} {c : Nat} {w0 : World} (h0 : B < w0.heap.size) (ho : w.ownsRow w0.heap.size 32 4 (.slice A (entsF X u).length c) (entsF X u).length ((entsF X u).flatMap ecl)) :
    WasAt (w.setCell ⟨B, u, none⟩ (.slice A (entsF X u).length c)) B X (u + 1) := by
  obtain ⟨cs, hb, hc⟩ := a.blk
  have h1 := Blk.set hb u (.slice A (entsF X u).length c)
  have far : ∀ b, b ≠ B → (w.setCell ⟨B, u, none⟩ (.slice A (entsF X u).length c)).heap[b]? = w.heap[b]? := fun b hne => Below.heap_setCell w ⟨B, u, none⟩ _ b hne
  have hsz : (w.setCell ⟨B, u, none⟩ (.slice A (entsF X u).length c)).heap.size = w.heap.size := by simp [World.setCell]
  refine ⟨⟨_, h1, by simpa using hc⟩, fun i hi => ?_⟩
  by_cases hiu : i = u
  · subst hiu
    refine ⟨A, c, by rw [Blk.cell h1]; simp [Array.getElem?_setIfInBounds]; omega, ?_⟩
    rcases row_cells ho with ⟨_, hz⟩ | ⟨g, c2, hv, hg0, hg, hl, hcc⟩
    · exact .inl (List.eq_nil_of_length_eq_zero hz)
    · injection hv with hv1 _ _
      refine .inr ⟨g, hv1, by omega, by rw [hsz]; exact hg, fun j hj => ?_⟩
      have key : ∀ l, l < 4 → w.cell? ⟨g, j * 4 + l, none⟩ = (ecl ((entsF X i).getD j En.nil))[l]? := fun l hl => by
        rw [hcc (j * 4 + l) (by omega), flat_at ecl 4 (fun _ => rfl) (entsF X i) j l hl, List.getElem?_eq_getElem hj, getD_at (entsF X i) hj]
        rfl
      have hE : EntAt w g (j * 4) ((entsF X i).getD j En.nil) := ⟨key 0 (by omega), key 1 (by omega), key 2 (by omega), key 3 (by omega)⟩
      exact hE.of (far g (by omega))
  · obtain ⟨A1, c1, k1, k2⟩ := a.row i (by omega)
    refine ⟨A1, c1, ?_, ?_⟩
    · rw [Blk.cell h1, Array.getElem?_setIfInBounds_ne (by omega), ← Blk.cell hb]
      exact k1
    · rcases k2 with k2 | ⟨b, l1, l2, l3, l4⟩
      · exact .inl k2
      · exact .inr ⟨b, l1, l2, by rw [hsz]; exact l3, fun j hj => (l4 j hj).of (far b (by omega))⟩
theorem WasAt.rowE (a : WasAt w B X u) {i : Nat} (hi : i < u) : ∃ A c, w.cell? ⟨B, i, none⟩ = some (.slice A (entsF X i).length c) ∧ RowE w w.heap.size A (entsF X i) := by
  obtain ⟨A, c, h1, h2⟩ := a.row i hi
  refine ⟨A, c, h1, ?_⟩
  rcases h2 with h2 | ⟨b, k1, _, k3, k4⟩
  · exact .inl h2
  · exact .inr ⟨b, 0, k1, k3, fun j hj => by rw [Nat.zero_add]; exact k4 j hj⟩
end

section
variable {w0 w1 w2 : World} {p h t k : Nat} {c g : Int} {X : FSt}
/-- the queue's row, where it lies -/
theorem FRound.row (a : FRound w0 w1 p h c g t k X) {u : Nat} (hu : u < 6) :
    Calls Try.prog 37 #[.pointer (some ⟨h, 0, none⟩), .int .i64 (u : Int)] w1 fun r w' => ∃ A cc, r = .returned (.slice A (entsF X u).length cc) ∧ Hid (w'.ownsRow w1.heap.size 32 4 (.slice A (entsF X u).length cc) (entsF X u).length ((entsF X u).flatMap ecl) ∧ Below w1.heap.size w1 w') := by
  refine (fq_queue a.at_ (a.ok.at_ hu)).mono fun r w' hp => ?_
  obtain ⟨v, hr, hO⟩ := hp
  obtain ⟨A, cc, hv, _, _⟩ := own_ents hO.out.1
  have h1 := hO.out.1
  rw [hv] at h1
  exact ⟨A, cc, by rw [hr, hv]; rfl, Lib.hid ⟨h1, hO.out.2.1⟩⟩
/-- a charge leaves whatever is new since some time -/
theorem FRound.charge_far (a : FRound w0 w1 p h c g t k X) (hk : k ≤ 100000) (hB : Below w1.heap.size w1 w2) (hlt : w1.heap.size < w2.heap.size) (ns : Nat) (hns : ns ≤ 1000000000) :
    Calls Try.prog 38 #[.pointer (some ⟨h, 0, none⟩), .int .u64 (ns : Nat)] w2 fun r w' => r = .returned (.int .i64 (if runI 9 X.S = -1 then 7 else 0)) ∧
      Hid (FRound w0 w' p h c g t (k + 1) ⟨chargeH ns X.S, X.own, X.here⟩ ∧ w2.heap.size ≤ w'.heap.size ∧ ∀ b, w1.heap.size ≤ b → b < w2.heap.size → w'.heap[b]? = w2.heap[b]?) := by
  obtain ⟨F, h1, h2, h3, h4, _⟩ := a.at_.ex
  have hp := a.at_.farm.lt
  have hF : ∀ b, b ∈ F → b < w1.heap.size := h1.lt
  have a2 := a.at_.below hB
  have hks : FQ w0 ((List.range w2.heap.size).filterMap fun b => if w1.heap.size ≤ b then (w2.heap[b]?).map fun o => (b, o) else none) w2 p h X.S (1 + 10000 * (k : Int)) X.own X.here c g t := by
    refine ⟨⟨F, h1.below hB, h2.trans (hB.mono h2.size), h3, h4, fun z hz => ?_⟩, a2.pb, a2.farm⟩
    obtain ⟨b, hb, hz2⟩ := List.mem_filterMap.1 hz
    by_cases hle : w1.heap.size ≤ b
    · rw [if_pos hle] at hz2
      obtain ⟨o, ho, rfl⟩ := Option.map_eq_some_iff.1 hz2
      exact ⟨fun hm => by have := hF b hm; omega, by show b ≠ p; omega, ho⟩
    · rw [if_neg hle] at hz2
      simp at hz2
  refine (fq_charge hks a.ok.good (by omega) ns hns).mono fun r w' hpp => ?_
  obtain ⟨hr, hQ⟩ := hpp
  obtain ⟨F', q1, q2, q3, q4, q5⟩ := hQ.out.ex
  have hkeep : ∀ b, w1.heap.size ≤ b → b < w2.heap.size → w'.heap[b]? = w2.heap[b]? := fun b hb1 hb2 => by
    have hm : (b, w2.heap[b]) ∈ (List.range w2.heap.size).filterMap fun b => if w1.heap.size ≤ b then (w2.heap[b]?).map fun o => (b, o) else none :=
      List.mem_filterMap.2 ⟨b, List.mem_range.2 hb2, by rw [if_pos hb1, Array.getElem?_eq_getElem hb2]; rfl⟩
    have := (q5 _ hm).2.2
    rw [this, Array.getElem?_eq_getElem hb2]
  have hsz : w2.heap.size ≤ w'.heap.size := by
    have := hkeep (w2.heap.size - 1) (by omega) (by omega)
    rw [Array.getElem?_eq_getElem (show w2.heap.size - 1 < w2.heap.size by omega)] at this
    have := (Array.getElem?_eq_some_iff.1 this).1
    omega
  have hQ' : FQ w0 [] w' p h (chargeH ns X.S) (1 + 10000 * (k : Int) + 10000) X.own X.here c g t := ⟨⟨F', q1, q2, q3, q4, fun z hz => by simp at hz⟩, hQ.out.pb, hQ.out.farm⟩
  exact ⟨hr, Lib.hid ⟨⟨hQ'.mono (by omega) (by omega), a.ok.sim (chargeH_good a.ok.good ns) (chargeH_sim ns X.S)⟩, hsz, hkeep⟩⟩
end

end Go.Proofs.Ytefekboacghnjaa

namespace Go.Proofs.Ytefekboacghnjaa
open Go.RowKit Go.Maps

def gA (n : Nat) : Nat → Nat
  | 0 => homeN n
  | m + 1 => parN (gA n m)
def idA (n : Nat) : Nat → Int
  | 0 => 2 * (n : Int)
  | m + 1 => 2 * ((gA n m : Nat) : Int) + 1
def wantA (n : Nat) : Nat → List Int
  | 0 => [-1, -1, -1, -1, -1, -1]
  | m + 1 => (wantA n m).set (gA n m) (idA n m)
def fillA : Nat → List Int
  | 0 => [0, 0, 0, 0, 0, 0]
  | u + 1 => (fillA u).set u (-1)
theorem fill_six : fillA 6 = [-1, -1, -1, -1, -1, -1] := rfl
theorem fillA_len : ∀ u, (fillA u).length = 6
  | 0 => rfl
  | u + 1 => by
    show ((fillA u).set u (-1)).length = 6
    rw [List.length_set, fillA_len u]
theorem wantA_len (n : Nat) : ∀ m, (wantA n m).length = 6
  | 0 => rfl
  | m + 1 => by
    show ((wantA n m).set (gA n m) (idA n m)).length = 6
    rw [List.length_set, wantA_len n m]
theorem gA_lt (n : Nat) : ∀ m, gA n m < 6
  | 0 => home_lt n
  | m + 1 => parN_lt _ (gA_lt n m)
theorem gA_end (n : Nat) (hn : n < 8) : gA n 3 = 0 := by
  have key : ∀ n : Fin 8, gA n.1 3 = 0 := by decide +kernel
  exact key ⟨n, hn⟩
theorem want_done (n : Nat) (hn : n < 8) (m : Nat) (hm : m ≤ 3) (h : gA n m = 0) (hf : ∀ i, i < m → gA n i ≠ 0) (u : Nat) (hu : u < 6) : (wantA n (m + 1)).getD u 0 = wantT n u := by
  have key : ∀ n : Fin 8, ∀ m : Fin 4, gA n.1 m.1 = 0 → (∀ i : Fin 4, i.1 < m.1 → gA n.1 i.1 ≠ 0) → ∀ u : Fin 6, (wantA n.1 (m.1 + 1)).getD u.1 0 = wantT n.1 u.1 := by decide +kernel
  exact key ⟨n, hn⟩ ⟨m, by omega⟩ h (fun i hi => hf i.1 hi) ⟨u, hu⟩
/-- six whole numbers in a block -/
structure IntsAt (w : World) (B : Nat) (l : List Int) : Prop where
  blk : Blk w B (l.map fun v => Value.int .i64 v).toArray 77
section
variable {w w' : World} {B : Nat} {l : List Int}
theorem IntsAt.below (a : IntsAt w B l) (h : Below w.heap.size w w') : IntsAt w' B l := ⟨a.blk.below h a.blk.lt⟩
theorem IntsAt.cell (a : IntsAt w B l) {i : Nat} (hi : i < l.length) : w.cell? ⟨B, i, none⟩ = some (.int .i64 (l.getD i 0)) := by
  rw [Blk.cell a.blk, List.getElem?_toArray, List.getElem?_map, List.getElem?_eq_getElem hi, List.getD_eq_getElem?_getD, List.getElem?_eq_getElem hi]
  rfl
theorem IntsAt.set (a : IntsAt w B l) (i : Nat) (v : Int) : IntsAt (w.setCell ⟨B, i, none⟩ (.int .i64 v)) B (l.set i v) := by
  have h := Blk.set a.blk i (.int .i64 v)
  rw [List.setIfInBounds_toArray, ← List.map_set (f := fun v => Value.int .i64 v)] at h
  exact ⟨h⟩
theorem IntsAt.frozen (a : IntsAt w B l) : ∀ j, w.frozen? ⟨B, j, none⟩ = false := Blk.frozen a.blk
end
section
variable {w0 w : World} {p h t k : Nat} {c g : Int} {X : FSt}
theorem FRound.run (a : FRound w0 w p h c g t k X) :
    Calls Try.prog 36 #[.pointer (some ⟨h, 0, none⟩)] w fun r w' => r = .returned (.int .i64 (runI 9 X.S)) ∧ Hid (FRound w0 w' p h c g t k X) :=
  (fq_run a.at_ a.ok.good).mono fun _ _ hp => ⟨hp.1, Lib.hid ⟨hp.2.out, a.ok⟩⟩
/-- moved, at a queue behind a charge -/
theorem FOk.moved (O : FOk c g X) (ns : Nat) (hns : ns ≤ 100000000) (hv : ∀ u x, X.S.G u = some x → ∀ e, e ∈ x.q.L → -1000000000000 ≤ e.v ∧ e.v ≤ 1000000000000) {u : Nat} (hu : u < 6) {X' : FSt} {z : Int}
    (h1 : (entsF X' u).length = (entsF X u).length) (h2 : ∀ e, e ∈ entsF X u → mvE z ns e ∈ entsF X' u) (A A' : Option Addr) (c1 c2 : Nat) (w : World) (hA : RowE w w.heap.size A (entsF X u)) (hA' : RowE w w.heap.size A' (entsF X' u)) :
    Calls Try.prog 41 #[.slice A (entsF X u).length c1, .slice A' (entsF X' u).length c2, .int .i64 z, .int .u64 (ns : Nat)] w fun r w' => r = .returned (.bool true) ∧ Below w.heap.size w w' := by
  have hq := O.good.inv.qok u _ (O.at_ hu)
  have hmem : ∀ e, e ∈ entsF X u → e ∈ (grOf X.S u).q.L := fun e he => (ents_perm hq).mem_iff.1 he
  refine moved_any A A' (entsF X u) (entsF X' u) c1 c2 z ns w hA hA' h1 ?_ (fun e he => ?_) hns h2
  · have := O.ents_len hu
    have := hq.len
    omega
  · have ho := hq.ents e (hmem e he)
    have hb := hv u _ (O.at_ hu) e (hmem e he)
    exact ⟨ho.w1, ho.w2, ho.r, hb.1, hb.2⟩
end
/-- near vruntimes are small -/
theorem NearF.small {c g M : Int} {t : Nat} {X : FSt} (N : NearF c g t M X) (hc : c ≤ 65535) (hg : g ≤ 65535) (ht : t ≤ 65536) (hM : M ≤ 10000000000) :
    ∀ u x, X.S.G u = some x → ∀ e, e ∈ x.q.L → -1000000000000 ≤ e.v ∧ e.v ≤ 1000000000000 := fun u x hx e he => by
  have h := N.h.q u x hx
  have h1 := h.q.low e he
  have h2 := h.q.high e he
  have h3 := h.q.mn0
  have h4 := h.mn
  omega

end Go.Proofs.Ytefekboacghnjaa
