/-
  runq.Queue: what is known between the turns of its map and of its tree.
-/
import Derived.Test.YtkemhcokkaanfaaQ5
import Derived.StillTailTactics
namespace Go.Proofs.Ytkemhcokkaanfaa
open Go.RowKit Go.Maps

theorem MapP.len {w : World} {b n : Nat} {f : Int → Int} (h : MapP w b n f) (ty : TypeId) : (Builtin.len_ #[135] ty #[.map (some b)]).run Try.prog w = .ok (.int .i64 n) w := by
  obtain ⟨D, ho, hf, hh, hs⟩ := h
  rw [ho.len Try.underlying135 ty, hs]

section
variable {w w' : World} {q bm bt : Nat} {S S' F F' : List Nat} {g g' : Int → Nat} {X X' : QS} {K K' : Int} {e e' : En}
theorem QTurned.same (h : QAt w q F X K) (hb : Below w.heap.size w w') (hK : K ≤ K') (h2 : K' ≤ 1000000000000000) : QTurned w F q X K' w' F := ⟨(h.below hb).mono hK h2, Turns.of_below hb, fun _ hb => .inl hb⟩
/-- behind the map's turn, ahead of the tree's: the map and the blocks that it shall hold -/
structure PutMid (w : World) (q bm bt : Nat) (S : List Nat) (g : Int → Nat) (X : QS) (K : Int) (L' : List En) (g' : Int → Nat) (w2 : World) : Prop where
  blk : Blk w2 q (qcells bm bt X.cur X.mn (loadL X.L) X.over) 139
  map : MapP w2 bm L'.length (place L' g')
  ents : ∀ x, x ∈ L' → Blk w2 (g' x.id) (ecells x) 52
  tree : TreeAt w2 bt S (ksOf X.L) K
  turns : Turns (qblocks q bm S g X) w w2
  sub : ∀ x, x ∈ L' → g' x.id ∈ qblocks q bm S g X ∨ w.heap.size ≤ g' x.id
theorem PutMid.drew {L' : List En} {w2 : World} (h : PutMid w q bm bt S g X K L' g' w2) : PutMid w q bm bt S g X K L' g' w2.drew :=
  ⟨h.blk.of rfl, h.map.of rfl, fun x hx => (h.ents x hx).of rfl, h.tree.of (fun _ _ => rfl), h.turns.drew, h.sub⟩
theorem PutMid.below {L' : List En} {w2 w3 : World} (h : PutMid w q bm bt S g X K L' g' w2) (hb : Below w2.heap.size w2 w3) : PutMid w q bm bt S g X K L' g' w3 :=
  ⟨h.blk.below hb h.blk.lt, h.map.of (hb.block _ h.map.lt), fun x hx => (h.ents x hx).below hb (h.ents x hx).lt, h.tree.below hb, h.turns.below hb h.turns.size, h.sub⟩
/-- what is known when the tree has turned -/
structure PutTree (w : World) (q bm bt : Nat) (S : List Nat) (g : Int → Nat) (X : QS) (K : Int) (L' : List En) (g' : Int → Nat) (K' : Int) (w5 : World) : Prop where
  ex : ∃ w2 S', PutMid w q bm bt S g X K L' g' w2 ∧ TreeTurned w2 S bt (ksOf L') K' w5 S' ∧ Blk w5 q (qcells bm bt X.cur X.mn (loadL X.L) X.over) 139 ∧ ∀ b cs, Blk w2 b cs 52 → cs.size = 4 → Blk w5 b cs 52
theorem PutMid.tree_turn {L' : List En} {w2 w5 : World} (h : PutMid w q bm bt S g X K L' g' w2) (hT : TreeTurned w2 S bt (ksOf L') K' w5 S') (hk : K' ≤ K + 1000) : PutTree w q bm bt S g X K L' g' (K + 1000) w5 :=
  ⟨w2, S', h, ⟨hT.at_.mono hk, hT.turns, hT.sub⟩, h.blk.turns hT.turns (h.tree.not h.blk (by simp) (by simp)), fun b cs hb hs => hb.turns hT.turns (h.tree.not hb (by omega) (by omega))⟩
/-- behind the tree's turn -/
theorem PutMid.done {L' : List En} {w2 w5 w6 : World} (h : PutMid w q bm bt S g X K L' g' w2) (hT : TreeTurned w2 S bt (ksOf L') K' w5 S') (hX : X'.L = L') (hok : X'.ok) (hk : 1 ≤ K') (hk2 : K' ≤ 1000000000000000)
    (hq : Blk w6 q (qcells bm bt X'.cur X'.mn (loadL X'.L) X'.over) 139) (h6 : ∀ b, b ∈ qblocks q bm S' g' X' → b ≠ q → w6.heap[b]? = w5.heap[b]?) (ht : Turns (qblocks q bm S g X) w w6) :
    QTurned w (qblocks q bm S g X) q X' K' w6 (qblocks q bm S' g' X') := by
  have hqS : q ∉ S := h.tree.not h.blk (by simp) (by simp)
  have hq5 := h.blk.turns hT.turns hqS
  have hqS' : q ∉ S' := hT.at_.not hq5 (by simp) (by simp)
  have hbm : bm ∉ S := h.tree.not_map h.map
  have hbq : bm ≠ q := h.map.not_blk h.blk
  have hm5 : MapP w5 bm L'.length (place L' g') := h.map.of (hT.turns.block _ h.map.lt hbm)
  have sz : w.heap.size ≤ w2.heap.size := h.turns.size
  have szz := hT.turns.size
  refine ⟨⟨bm, bt, S', g', ⟨hq, ?_, fun x hx => ?_, ?_, hok, hk, hk2⟩, rfl⟩, ?_, fun b hb => ?_⟩
  · rw [hX]; exact hm5.of (h6 _ (by simp [qblocks]) hbq)
  · rw [hX] at hx
    have he := h.ents x hx
    have heq : g' x.id ≠ q := Blk.apart he h.blk (by simp)
    exact (he.turns hT.turns (h.tree.not he (by simp) (by simp))).of (h6 _ (by
      simp only [qblocks, List.mem_cons, List.mem_append, List.mem_map]
      exact .inr (.inr (.inr ⟨x, by rw [hX]; exact hx, rfl⟩))) heq)
  · rw [hX]
    exact hT.at_.of fun b hb => h6 b (by simp [qblocks, hb]) (fun e => hqS' (e ▸ hb))
  · exact ht
  · simp only [qblocks, List.mem_cons, List.mem_append, List.mem_map] at hb
    rcases hb with rfl | rfl | hb | ⟨x, hx, rfl⟩
    · exact .inl (by simp [qblocks])
    · exact .inl (by simp [qblocks])
    · rcases hT.sub b hb with e | e
      · exact .inl (by simp [qblocks, e])
      · exact .inr (by omega)
    · rw [hX] at hx
      exact h.sub x hx
/-- one more stands in the map -/
theorem QMem.put_mid (h : QMem w q bm bt S g X K) {D : DataW Unit} {W0 w2 : World} (hW : Below w.heap.size w W0) {ge : Nat} (hge : w.heap.size ≤ ge) (hbox : Blk W0 ge (ecells e) 52) (hn : e.id ∉ X.L.map (·.id))
    (ho : W0.ownsMap Try.prog 3 readP bm X.L.length D) (hf : ∀ k, D.atKey (.int .i64 k) (.lit (.int .i64 (-1))) = .lit (.int .i64 (place X.L g k))) (hh : ∀ k, has D (.int .i64 k) = decide (place X.L g k ≠ -1)) (hs : size D = X.L.length)
    (ho2 : w2.ownsMap Try.prog 3 readP bm (X.L.length + 1) (D.put (.int .i64 e.id) (.lit (.int .i64 (ge : Int))))) (hg : W0.grownBy w2 (some bm)) :
    PutMid w q bm bt S g X K (X.L ++ [e]) (fun i => if i = e.id then ge else g i) w2 := by
  have h0 := h.below hW
  obtain ⟨a1, a2, a3, a4, a5⟩ := h.apart
  have hbl := fun b (hb : b < W0.heap.size) (hne : b ≠ bm) => hg.block b hb (by intro e; injection e with e; exact hne e)
  have hmge : ge ≠ bm := by have := h.map.lt; omega
  refine ⟨h0.blk.of (hbl q h0.blk.lt (Ne.symm a1)), ?_, fun x hx => ?_, h0.tree.of (fun b hb => hbl b (h0.tree.lt b hb) (fun e => a3 (e ▸ hb))), ?_, fun x hx => ?_⟩
  · rw [place_add, List.length_append]
    exact MapP.put ho hf hh hs (place_out hn) ho2
  · rcases List.mem_append.1 hx with hx | hx
    · have hne : x.id ≠ e.id := fun hc => hn (List.mem_map.2 ⟨x, hx, hc⟩)
      show Blk w2 (if x.id = e.id then ge else g x.id) _ _
      rw [if_neg hne]
      exact (h0.ents x hx).of (hbl _ (h0.ents x hx).lt (a4 x hx).2.1)
    · rw [List.mem_singleton.1 hx]
      show Blk w2 (if e.id = e.id then ge else g e.id) _ _
      rw [if_pos rfl]
      exact hbox.of (hbl _ hbox.lt hmge)
  · exact (Turns.of_below hW).then (Turns.of_grown hg) (fun x hx _ => by rw [List.mem_singleton.1 hx]; simp [qblocks])
  · rcases List.mem_append.1 hx with hx | hx
    · have hne : x.id ≠ e.id := fun hc => hn (List.mem_map.2 ⟨x, hx, hc⟩)
      show (if x.id = e.id then ge else g x.id) ∈ _ ∨ _
      rw [if_neg hne]
      refine .inl ?_
      simp only [qblocks, List.mem_cons, List.mem_append, List.mem_map]
      exact .inr (.inr (.inr ⟨x, hx, rfl⟩))
    · rw [List.mem_singleton.1 hx]
      refine .inr ?_
      show _ ≤ (if e.id = e.id then ge else g e.id)
      rw [if_pos rfl]
      exact hge
/-- one less stands in the map -/
theorem QMem.drop_mid (h : QMem w q bm bt S g X K) {D : DataW Unit} {W0 w2 : World} (hW : Below w.heap.size w W0) (he : e ∈ X.L)
    (ho : W0.ownsMap Try.prog 3 readP bm ((lessL X.L e.id).length + 1) D) (hf : ∀ k, D.atKey (.int .i64 k) (.lit (.int .i64 (-1))) = .lit (.int .i64 (place X.L g k))) (hh : ∀ k, has D (.int .i64 k) = decide (place X.L g k ≠ -1)) (hs : size D = (lessL X.L e.id).length + 1)
    (ho2 : w2.ownsMap Try.prog 3 readP bm ((lessL X.L e.id).length + 1) (D.del (.int .i64 e.id))) (hg : W0.grownBy w2 (some bm)) :
    PutMid w q bm bt S g X K (lessL X.L e.id) g w2 := by
  have h0 := h.below hW
  obtain ⟨a1, a2, a3, a4, a5⟩ := h.apart
  have hbl := fun b (hb : b < W0.heap.size) (hne : b ≠ bm) => hg.block b hb (by intro e; injection e with e; exact hne e)
  refine ⟨h0.blk.of (hbl q h0.blk.lt (Ne.symm a1)), ?_, fun x hx => ?_, h0.tree.of (fun b hb => hbl b (h0.tree.lt b hb) (fun e => a3 (e ▸ hb))), ?_, fun x hx => ?_⟩
  · rw [place_less]
    exact MapP.del ho hf hh hs (by rw [place_in he]; omega) ho2
  · have hx := (lessL_mem.1 hx).1
    exact (h0.ents x hx).of (hbl _ (h0.ents x hx).lt (a4 x hx).2.1)
  · exact (Turns.of_below hW).then (Turns.of_grown hg) (fun x hx _ => by rw [List.mem_singleton.1 hx]; simp [qblocks])
  · refine .inl ?_
    simp only [qblocks, List.mem_cons, List.mem_append, List.mem_map]
    exact .inr (.inr (.inr ⟨x, (lessL_mem.1 hx).1, rfl⟩))
theorem PutTree.done {L' : List En} {w5 w6 : World} (h : PutTree w q bm bt S g X K L' g' K' w5) (hX : X'.L = L') (hok : X'.ok) (hk : 1 ≤ K') (hk2 : K' ≤ 1000000000000000)
    (hq : Blk w6 q (qcells bm bt X'.cur X'.mn (loadL X'.L) X'.over) 139) (h6 : ∀ b, b ≠ q → w6.heap[b]? = w5.heap[b]?) (ht : Turns [q] w5 w6) :
    ∃ F', QTurned w (qblocks q bm S g X) q X' K' w6 F' := by
  obtain ⟨w2, S', hm, hT, _⟩ := h.ex
  exact ⟨_, hm.done hT hX hok hk hk2 hq (fun b _ hb => h6 b hb) ((hm.turns.then hT.turns (fun x hx _ => by simp [qblocks, hx])).then ht (fun x hx _ => by
    rw [List.mem_singleton] at hx
    subst hx
    simp [qblocks]))⟩
/-- beside the queue one new block has turned -/
theorem PutTree.done2 {L' : List En} {w5 w6 : World} {r : Nat} {e0 : En} (h : PutTree w q bm bt S g X K L' g' K' w5) (hX : X'.L = L') (hok : X'.ok) (hk : 1 ≤ K') (hk2 : K' ≤ 1000000000000000)
    (hq : Blk w6 q (qcells bm bt X'.cur X'.mn (loadL X'.L) X'.over) 139) (h6 : ∀ b, b ≠ q → b ≠ r → w6.heap[b]? = w5.heap[b]?) (ht : Turns [q, r] w5 w6) (hr : w.heap.size ≤ r) (hrb : Blk w5 r (ecells e0) 52) (hg : ∀ x, x ∈ L' → g' x.id ≠ r) :
    ∃ F', QTurned w (qblocks q bm S g X) q X' K' w6 F' ∧ r ∉ F' := by
  obtain ⟨w2, S', hm, hT, h5, _⟩ := h.ex
  have hbm : bm < w2.heap.size := hm.map.lt
  have hm5 : MapP w5 bm L'.length (place L' g') := hm.map.of (hT.turns.block _ hm.map.lt (hm.tree.not_map hm.map))
  have hne : ∀ b, b ∈ qblocks q bm S' g' X' → b ≠ r := by
    intro b hb
    simp only [qblocks, List.mem_cons, List.mem_append, List.mem_map] at hb
    rcases hb with rfl | rfl | hb | ⟨x, hx, rfl⟩
    · exact Blk.apart h5 hrb (by simp)
    · exact hm5.not_blk hrb
    · exact fun e => hT.at_.not hrb (by simp) (by simp) (e ▸ hb)
    · exact hg x (by rw [← hX]; exact hx)
  exact ⟨_, hm.done hT hX hok hk hk2 hq (fun b hm hb => h6 b hb (hne b hm)) ((hm.turns.then hT.turns (fun x hx _ => by simp [qblocks, hx])).then ht (fun x hx hlt => by
    simp only [List.mem_cons, List.mem_nil_iff, or_false] at hx
    rcases hx with rfl | rfl
    · simp [qblocks]
    · omega)), fun hm => hne r hm rfl⟩
end

end Go.Proofs.Ytkemhcokkaanfaa
