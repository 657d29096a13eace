/-
  RunqDrops, the plain part: what is dropped and put again.
-/
import Derived.Test.YtkemhcokkaanfaaLw8c
namespace Go.Proofs.Ytkemhcokkaanfaa
open Go.ChangeShapes Go.WideShapes Go.ChangeAt Go.RowKit Go.Deep Go.Maps

namespace runqDrops
section
variable {X : QS} {e : En}
theorem putQ_cur (X : QS) (e : En) : (putQ X e).cur = X.cur := by
  unfold putQ
  split <;> rfl
theorem insK_len {k : Int × Int} : ∀ {l : List (Int × Int)}, Up l → k ∉ l → (insK k l).length = l.length + 1
  | [], _, _ => rfl
  | a :: r, hu, hm => by
    rw [Up, List.pairwise_cons] at hu
    unfold insK
    split
    · rfl
    · split
      · rename_i h2
        exact absurd (by simp [h2]) hm
      · rw [List.length_cons, insK_len hu.2 (fun h => hm (by simp [h])), List.length_cons]
theorem ins_filter {k : Int × Int} {l : List (Int × Int)} (hu : Up l) (hm : k ∈ l) : insK k (l.filter (fun y => decide (y ≠ k))) = l := by
  refine up_unique (insK_up _ _ (up_filter hu _)) hu fun x => ?_
  rw [insK_mem, List.mem_filter, decide_eq_true_eq]
  constructor
  · rintro (rfl | h)
    · exact hm
    · exact h.1
  · intro h
    by_cases hx : x = k
    · exact .inl hx
    · exact .inr ⟨h, hx⟩
theorem mn_le (X : QS) : X.mn ≤ X.raise.mn := by
  show _ ≤ (match (ksOf X.L).head? with | none => X.mn | some k => max X.mn k.1)
  split
  · exact Int.le_refl _
  · exact Int.le_max_left _ _
theorem less_len (h : X.ok) (he : e ∈ X.L) : (ksOf X.L).length = (ksOf (lessL X.L e.id)).length + 1 := by
  have hm : e.key ∈ ksOf X.L := (ksOf_mem _ _).2 (List.mem_map.2 ⟨e, he, rfl⟩)
  have h1 := ins_filter (ksOf_up X.L) hm
  have h2 := insK_len (up_filter (ksOf_up X.L) (fun y => decide (y ≠ e.key))) (k := e.key) (fun h => by simp at h)
  rw [h1] at h2
  rw [h2, ksOf_less h.ids he]
theorem again (h : X.ok) (he : e ∈ X.L) :
    dropQ X e.id = (X.drop e.id).raise ∧ (dropQ X e.id).get e.id = none ∧ dropQ (dropQ X e.id) e.id = dropQ X e.id ∧ (dropQ X e.id).ents.length + 1 = X.ents.length ∧ X.mn ≤ (dropQ X e.id).mn ∧
    putC (dropQ X e.id) e = 0 ∧ (putQ (dropQ X e.id) e).ents = X.ents := by
  have hm : e.id ∈ X.L.map (·.id) := List.mem_map.2 ⟨e, he, rfl⟩
  have e1 : dropQ X e.id = (X.drop e.id).raise := if_pos hm
  have hnot : e.id ∉ (X.drop e.id).raise.L.map (·.id) := fun hx => by
    obtain ⟨y, hy, hyi⟩ := List.mem_map.1 hx
    exact (lessL_mem.1 hy).2 hyi
  have hget : (X.drop e.id).raise.get e.id = none := by
    cases hg : (X.drop e.id).raise.get e.id with
    | none => rfl
    | some y => exact absurd (List.mem_map.2 ⟨y, (QS.get_some hg).1, (QS.get_some hg).2⟩) hnot
  have heo := h.ents e he
  have hl := len_less h.ids he
  have hl2 := h.len
  have hpc : putC (X.drop e.id).raise e = 0 := by
    unfold putC
    rw [if_neg (by have := heo.i1; omega), if_neg (by have := heo.w1; have := heo.w2; omega), if_neg (by have := heo.r; omega), if_neg hnot, if_neg (by show ¬ (lessL X.L e.id).length = 128; omega)]
  have hks : ksOf (lessL X.L e.id ++ [e]) = ksOf X.L := by
    rw [ksOf_snoc, ksOf_less h.ids he]
    exact ins_filter (ksOf_up _) ((ksOf_mem _ _).2 (List.mem_map.2 ⟨e, he, rfl⟩))
  rw [e1]
  refine ⟨rfl, hget, if_neg hnot, ?_, mn_le (X.drop e.id), hpc, ?_⟩
  · rw [ents_len, ents_len, less_len h he]
    rfl
  · have e2 : putQ (X.drop e.id).raise e = ((X.drop e.id).raise.add e).raise := if_pos hpc
    have hok2 : ((X.drop e.id).raise.add e).raise.ok := by
      refine QS.ok.raise (QS.ok.add (h.drop e.id).raise heo hnot ?_)
      show (lessL X.L e.id).length < 128
      omega
    rw [e2]
    unfold QS.ents
    show (ksOf (lessL X.L e.id ++ [e])).map _ = _
    rw [hks]
    refine List.map_congr_left fun k hk => ?_
    obtain ⟨x, hx, rfl⟩ := ksOf_ent hk
    have g1 : X.get x.key.2 = some x := h.get hx
    have g2 : ((X.drop e.id).raise.add e).raise.get x.key.2 = some x := by
      refine hok2.get ?_
      show x ∈ lessL X.L e.id ++ [e]
      by_cases hc : x.id = e.id
      · rw [En.same h.ids hx he hc]; simp
      · exact List.mem_append_left _ (lessL_mem.2 ⟨hx, hc⟩)
    rw [g1, g2]
end
/-- a queue that is new since w0, and some blocks beside it that lie as they lay -/
structure QSafe (w0 w : World) (q : Nat) (X : QS) (K : Int) (B : List (Nat × Option Obj)) : Prop where
  ex : ∃ F, QAt w q F X K ∧ Below w0.heap.size w0 w ∧ (∀ b, b ∈ F → w0.heap.size ≤ b) ∧ ∀ p, p ∈ B → p.1 ∉ F ∧ p.1 < w.heap.size ∧ w.heap[p.1]? = p.2
section
variable {w0 w w' : World} {q : Nat} {X X' : QS} {K K' : Int} {B : List (Nat × Option Obj)}
theorem QSafe.new (h : QSafe w0 w q X K B) : QNew w0 w q X K := by
  obtain ⟨F, h1, h2, h3, _⟩ := h.ex
  exact ⟨F, h1, h2, h3⟩
theorem QSafe.below (h : QSafe w0 w q X K B) (hb : Below w.heap.size w w') : QSafe w0 w' q X K B := by
  obtain ⟨F, h1, h2, h3, h4⟩ := h.ex
  exact ⟨F, h1.below hb, h2.trans (hb.mono h2.size), h3, fun p hp => by
    obtain ⟨a, b, c⟩ := h4 p hp
    exact ⟨a, Nat.lt_of_lt_of_le b hb.size, (hb.block _ b).trans c⟩⟩
theorem QSafe.of {F F' : List Nat} (h2 : Below w0.heap.size w0 w) (h3 : ∀ b, b ∈ F → w0.heap.size ≤ b) (h4 : ∀ p, p ∈ B → p.1 ∉ F ∧ p.1 < w.heap.size ∧ w.heap[p.1]? = p.2) (hT : QTurned w F q X' K' w' F') : QSafe w0 w' q X' K' B :=
  ⟨F', hT.at_, Below.turns h2 hT.turns h3 h2.size, fun b hb => by
    rcases hT.sub b hb with e | e
    · exact h3 b e
    · exact Nat.le_trans h2.size e, fun p hp => by
    obtain ⟨a, b, c⟩ := h4 p hp
    exact ⟨fun hm => by
      rcases hT.sub _ hm with e | e
      · exact a e
      · omega, Nat.lt_of_lt_of_le b hT.turns.size, (hT.turns.block _ b a).trans c⟩⟩
theorem QSafe.alloc (h : QSafe w0 w q X K B) (o : Obj) : QSafe w0 (w.alloc o) q X K ((w.heap.size, (w.alloc o).heap[w.heap.size]?) :: B) := by
  obtain ⟨F, h1, h2, h3, h4⟩ := (h.below ((Below.refl _ _).alloc (Nat.le_refl _) o)).ex
  obtain ⟨F0, k1, k2, k3, k4⟩ := h.ex
  refine ⟨F0, k1.below ((Below.refl _ _).alloc (Nat.le_refl _) o), h2, k3, fun p hp => ?_⟩
  rw [List.mem_cons] at hp
  rcases hp with rfl | hp
  · exact ⟨fun hm => Nat.lt_irrefl _ (k1.lt _ hm), by simp, rfl⟩
  · obtain ⟨a, b, c⟩ := k4 p hp
    exact ⟨a, by simp; omega, (Below.heap_alloc _ _ _ b).trans c⟩
theorem QSafe.keep (h : QSafe w0 w q X K B) {p : Nat × Option Obj} (hp : p ∈ B) : w.heap[p.1]? = p.2 := by
  obtain ⟨F, _, _, _, h4⟩ := h.ex
  exact (h4 p hp).2.2
theorem QSafe.lt (h : QSafe w0 w q X K B) {p : Nat × Option Obj} (hp : p ∈ B) : p.1 < w.heap.size := by
  obtain ⟨F, _, _, _, h4⟩ := h.ex
  exact (h4 p hp).2.1
theorem qs_put (h : QSafe w0 w q X K B) (hK : K + 1000 ≤ 1000000000000000) (e : En) (he : e.num) :
    Calls Try.prog 32 #[.pointer (some ⟨q, 0, none⟩), enV e] w fun r w' => r = .returned (.int .i64 (putC X e)) ∧ Hid (QSafe w0 w' q (putQ X e) (K + 1000) B) := by
  obtain ⟨F, h1, h2, h3, h4⟩ := h.ex
  refine (qput_any h1 hK e he.i1 he.i2 he.v1 he.v2 he.w2 he.r2).mono fun r w' hp => ?_
  obtain ⟨F', hr, hT⟩ := hp
  exact ⟨hr, QSafe.of h2 h3 h4 hT.out⟩
theorem qs_drop (h : QSafe w0 w q X K B) (hK : K + 1000 ≤ 1000000000000000) (i : Int) (i1 : -9223372036854775808 ≤ i) (i2 : i ≤ 9223372036854775807) :
    Calls Try.prog 36 #[.pointer (some ⟨q, 0, none⟩), .int .i64 i] w fun r w' => r = .returned (dropV (X.get i)) ∧ Hid (QSafe w0 w' q (dropQ X i) (K + 1000) B) := by
  obtain ⟨F, h1, h2, h3, h4⟩ := h.ex
  refine (qdrop_any h1 hK i i1 i2).mono fun r w' hp => ?_
  obtain ⟨F', hr, hT⟩ := hp
  exact ⟨hr, QSafe.of h2 h3 h4 hT.out⟩
theorem qs_charge (h : QSafe w0 w q X K B) (hK : K + 1000 ≤ 1000000000000000) (ns : Nat) (hns : ns < 18446744073709551616) :
    Calls Try.prog 34 #[.pointer (some ⟨q, 0, none⟩), .int .u64 ns] w fun r w' => r = .returned (.int .i64 (chargeC X ns)) ∧ Hid (QSafe w0 w' q (chargeQ X ns) (K + 1000) B) := by
  obtain ⟨F, h1, h2, h3, h4⟩ := h.ex
  refine (qcharge_any h1 hK ns hns).mono fun r w' hp => ?_
  obtain ⟨F', hr, hT⟩ := hp
  exact ⟨hr, QSafe.of h2 h3 h4 hT.out⟩
theorem qs_ents (h : QSafe w0 w q X K B) :
    Calls Try.prog 33 #[.pointer (some ⟨q, 0, none⟩)] w fun r w' => ∃ A c, r = .returned (.slice A X.ents.length c) ∧ Hid (RowE w' w'.heap.size A X.ents ∧ X.ents.length ≤ 9223372036854775807 ∧ QSafe w0 w' q X K B ∧ (∀ a, A = some a → QSafe w0 w' q X K ((a.block, w'.heap[a.block]?) :: B)) ∧ Below w.heap.size w w') := by
  obtain ⟨F, h1, h2, h3, h4⟩ := h.ex
  refine (qents_any h1).mono fun r w' hp => ?_
  obtain ⟨v, hr, hO⟩ := hp
  obtain ⟨A, c, rfl, hrow, hlen⟩ := own_ents hO.out.1
  refine ⟨A, c, hr, hrow, hlen, h.below hO.out.2, fun a ha => ?_, hO.out.2⟩
  subst ha
  have hb := hO.out.1.lt a.block rfl
  refine ⟨F, h1.below hO.out.2, h2.trans (hO.out.2.mono h2.size), h3, fun p hp => ?_⟩
  rw [List.mem_cons] at hp
  rcases hp with rfl | hp
  · exact ⟨fun hm => by have := h1.lt _ hm; have := hb.1; omega, hb.2, rfl⟩
  · obtain ⟨x, y, z⟩ := h4 p hp
    exact ⟨x, Nat.lt_of_lt_of_le y hO.out.2.size, (hO.out.2.block _ y).trans z⟩
end
/-- behind the first k of them were put -/
def putN (es : List En) (k : Nat) : QS := (es.take k).foldl putQ aw0
theorem putN_zero (es : List En) : putN es 0 = aw0 := rfl
theorem putN_succ (es : List En) {k : Nat} (hk : k < es.length) : putN es (k + 1) = putQ (putN es k) (es.getD k En.nil) := by
  unfold putN
  rw [getD_at es hk, ← List.take_append_getElem hk, List.foldl_append]
  rfl
theorem putN_cur (es : List En) : ∀ k, (putN es k).cur = -1 := by
  intro k
  unfold putN
  have : ∀ (l : List En) (X : QS), (l.foldl putQ X).cur = X.cur := by
    intro l
    induction l with
    | nil => intro X; rfl
    | cons a l ih => intro X; rw [List.foldl_cons, ih, putQ_cur]
  exact this _ _
theorem none_charge {X : QS} (h : X.ok) (hc : X.cur = -1) : chargeC X 1 = 7 ∧ chargeQ X 1 = X := by
  refine ⟨if_pos hc, ?_⟩
  unfold chargeQ
  have : X.get X.cur = none := by
    cases hg : X.get X.cur with
    | none => rfl
    | some y =>
      have h1 := QS.get_some hg
      have := (h.ents y h1.1).i1
      omega
  rw [this]

end runqDrops

end Go.Proofs.Ytkemhcokkaanfaa
