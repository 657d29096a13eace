/-
  runq.Queue: the queue as lists, and how it lies in memory; New and the getters.
-/
import Derived.Test.YtkemhcokkaanfaaQm
namespace Go.Proofs.Ytkemhcokkaanfaa
open Go.RowKit Go.Maps

structure En where
  id : Int
  wt : Nat
  v : Int
  rem : Nat
deriving DecidableEq
def En.key (e : En) : Int × Int := (e.v, e.id)
abbrev ecells (e : En) : Array Value := #[.int .i64 e.id, .int .u64 e.wt, .int .i64 e.v, .int .u64 e.rem]
abbrev enV (e : En) : Value := .agg #[.int .i64 e.id, .int .u64 e.wt, .int .i64 e.v, .int .u64 e.rem]
def ksOf (L : List En) : List (Int × Int) := L.foldl (fun a e => insK e.key a) []
theorem ksOf_snoc (L : List En) (e : En) : ksOf (L ++ [e]) = insK e.key (ksOf L) := by simp [ksOf, List.foldl_append]
theorem fold_up : ∀ (L : List En) (a : List (Int × Int)), Up a → Up (L.foldl (fun a e => insK e.key a) a)
  | [], _, h => h
  | _ :: L, _, h => fold_up L _ (insK_up _ _ h)
theorem fold_mem (x : Int × Int) : ∀ (L : List En) (a : List (Int × Int)), x ∈ L.foldl (fun a e => insK e.key a) a ↔ x ∈ a ∨ x ∈ L.map En.key
  | [], a => by simp
  | e :: L, a => by
    rw [List.foldl_cons, fold_mem x L, insK_mem, List.map_cons, List.mem_cons]
    constructor
    · rintro ((h | h) | h)
      · exact .inr (.inl h)
      · exact .inl h
      · exact .inr (.inr h)
    · rintro (h | h | h)
      · exact .inl (.inr h)
      · exact .inl (.inl h)
      · exact .inr h
theorem ksOf_up (L : List En) : Up (ksOf L) := fold_up L [] List.Pairwise.nil
theorem ksOf_mem (L : List En) (x : Int × Int) : x ∈ ksOf L ↔ x ∈ L.map En.key := by
  rw [ksOf, fold_mem]
  simp
theorem up_unique : ∀ {l m : List (Int × Int)}, Up l → Up m → (∀ x, x ∈ l ↔ x ∈ m) → l = m
  | [], [], _, _, _ => rfl
  | [], b :: m, _, _, h => by have := (h b).2 (by simp); simp at this
  | a :: l, [], _, _, h => by have := (h a).1 (by simp); simp at this
  | a :: l, b :: m, hl, hm, h => by
    rw [Up, List.pairwise_cons] at hl hm
    have e : a = b := by
      rcases (List.mem_cons.1 ((h a).1 (by simp))) with e | e
      · exact e
      · rcases (List.mem_cons.1 ((h b).2 (by simp))) with e2 | e2
        · exact e2.symm
        · exact absurd (keyLt_trans (hl.1 b e2) (hm.1 a e)) (keyLt_irrefl a)
    subst e
    rw [up_unique hl.2 hm.2 (fun x => by
      constructor
      · intro hx
        rcases List.mem_cons.1 ((h x).1 (by simp [hx])) with e | e
        · subst e; exact absurd (hl.1 x hx) (keyLt_irrefl x)
        · exact e
      · intro hx
        rcases List.mem_cons.1 ((h x).2 (by simp [hx])) with e | e
        · subst e; exact absurd (hm.1 x hx) (keyLt_irrefl x)
        · exact e)]
theorem ksOf_len (L : List En) : (ksOf L).length ≤ L.length := by
  have : ∀ (L : List En) (a : List (Int × Int)), (L.foldl (fun a e => insK e.key a) a).length ≤ a.length + L.length := by
    intro L
    induction L with
    | nil => intro a; simp
    | cons e L ih =>
      intro a
      refine Nat.le_trans (ih _) ?_
      have : (insK e.key a).length ≤ a.length + 1 := by
        generalize e.key = k
        induction a with
        | nil => simp [insK]
        | cons y a iha =>
          unfold insK
          split
          · simp
          · split
            · simp
            · simp; omega
      simp
      omega
  simpa [ksOf] using this L []

/-- a queue: its entities (in the order in which they came), the current one, the least vruntime, the flag -/
structure QS where
  L : List En
  cur : Int
  mn : Int
  over : Bool
def loadL : List En → Nat
  | [] => 0
  | e :: L => e.wt + loadL L
theorem loadL_append (l m : List En) : loadL (l ++ m) = loadL l + loadL m := by
  induction l with
  | nil => simp [loadL]
  | cons e l ih => simp [loadL, ih]; omega
/-- the entity of that number -/
def QS.get (X : QS) (i : Int) : Option En := X.L.find? fun e => e.id == i
/-- an entity that may stand in a queue -/
structure En.ok (e : En) : Prop where
  i1 : 0 ≤ e.id
  i2 : e.id ≤ 9223372036854775807
  w1 : 2 ≤ e.wt
  w2 : e.wt ≤ 262144
  v1 : -9223372036854775808 ≤ e.v
  v2 : e.v ≤ 9223372036854775807
  r : e.rem < e.wt
structure QS.ok (X : QS) : Prop where
  ents : ∀ e, e ∈ X.L → e.ok
  ids : (X.L.map (·.id)).Nodup
  len : X.L.length ≤ 128
  cur : X.cur = -1 ∨ ∃ e, e ∈ X.L ∧ e.id = X.cur
  m1 : -9223372036854775808 ≤ X.mn
  m2 : X.mn ≤ 9223372036854775807
theorem load_le : ∀ L : List En, (∀ e, e ∈ L → e.ok) → loadL L ≤ 262144 * L.length
  | [], _ => by simp [loadL]
  | e :: L, h => by
    have := load_le L (fun x hx => h x (by simp [hx]))
    have := (h e (by simp)).w2
    simp [loadL]
    omega
theorem QS.ok.load {X : QS} (h : X.ok) : loadL X.L ≤ 33554432 := by
  have := load_le X.L h.ents
  have := h.len
  omega

abbrev qcells (bm bt : Nat) (cur mn : Int) (load : Nat) (over : Bool) : Array Value := #[.map (some bm), .pointer (some ⟨bt, 0, none⟩), .int .i64 cur, .int .i64 mn, .int .u64 load, .bool over]
/-- where an entity lies; -1: it is not there -/
def place (L : List En) (g : Int → Nat) (i : Int) : Int := if i ∈ L.map (·.id) then (g i : Int) else -1
/-- memory holds the queue -/
structure QMem (w : World) (q bm bt : Nat) (S : List Nat) (g : Int → Nat) (X : QS) (K : Int) : Prop where
  blk : Blk w q (qcells bm bt X.cur X.mn (loadL X.L) X.over) 139
  map : MapP w bm X.L.length (place X.L g)
  ents : ∀ e, e ∈ X.L → Blk w (g e.id) (ecells e) 52
  tree : TreeAt w bt S (ksOf X.L) K
  ok : X.ok
  k1 : 1 ≤ K
  k2 : K ≤ 1000000000000000
/-- all its blocks -/
def qblocks (q bm : Nat) (S : List Nat) (g : Int → Nat) (X : QS) : List Nat := q :: bm :: (S ++ X.L.map fun e => g e.id)
structure QAt (w : World) (q : Nat) (F : List Nat) (X : QS) (K : Int) : Prop where
  ex : ∃ bm bt S g, QMem w q bm bt S g X K ∧ F = qblocks q bm S g X

theorem Blk.apart {w : World} {a b : Nat} {cs ds : Array Value} {t u : TypeId} (h : Blk w a cs t) (k : Blk w b ds u) (hn : cs ≠ ds) : a ≠ b := by
  rintro rfl
  have := h.symm.trans k
  simp at this
  exact hn this.1
section
variable {w w' : World} {q bm bt : Nat} {S F : List Nat} {g : Int → Nat} {X : QS} {K K' : Int}
theorem QMem.cells (h : QMem w q bm bt S g X K) : w.cell? ⟨q, 0, none⟩ = some (.map (some bm)) ∧ w.cell? ⟨q, 1, none⟩ = some (.pointer (some ⟨bt, 0, none⟩)) ∧ w.cell? ⟨q, 2, none⟩ = some (.int .i64 X.cur) ∧ w.cell? ⟨q, 3, none⟩ = some (.int .i64 X.mn) ∧
    w.cell? ⟨q, 4, none⟩ = some (.int .u64 (loadL X.L : Nat)) ∧ w.cell? ⟨q, 5, none⟩ = some (.bool X.over) ∧ ∀ j, w.frozen? ⟨q, j, none⟩ = false :=
  ⟨Blk.cell h.blk 0, Blk.cell h.blk 1, Blk.cell h.blk 2, Blk.cell h.blk 3, Blk.cell h.blk 4, Blk.cell h.blk 5, Blk.frozen h.blk⟩
theorem QMem.of (h : QMem w q bm bt S g X K) (e : ∀ b, b ∈ qblocks q bm S g X → w'.heap[b]? = w.heap[b]?) : QMem w' q bm bt S g X K :=
  ⟨h.blk.of (e q (by simp [qblocks])), h.map.of (e bm (by simp [qblocks])), fun x hx => (h.ents x hx).of (e _ (by
    simp only [qblocks, List.mem_cons, List.mem_append, List.mem_map]
    exact .inr (.inr (.inr ⟨x, hx, rfl⟩)))), h.tree.of (fun b hb => e b (by simp [qblocks, hb])), h.ok, h.k1, h.k2⟩
theorem QMem.lt (h : QMem w q bm bt S g X K) : ∀ b, b ∈ qblocks q bm S g X → b < w.heap.size := by
  intro b hb
  simp only [qblocks, List.mem_cons, List.mem_append, List.mem_map] at hb
  rcases hb with rfl | rfl | hb | ⟨x, hx, rfl⟩
  · exact h.blk.lt
  · exact h.map.lt
  · exact h.tree.lt b hb
  · exact (h.ents x hx).lt
theorem QMem.below (h : QMem w q bm bt S g X K) (k : Below w.heap.size w w') : QMem w' q bm bt S g X K := h.of fun b hb => k.block b (h.lt b hb)
theorem QMem.mono (h : QMem w q bm bt S g X K) (hK : K ≤ K') (h2 : K' ≤ 1000000000000000) : QMem w q bm bt S g X K' := ⟨h.blk, h.map, h.ents, h.tree.mono hK, h.ok, by have := h.k1; omega, h2⟩
theorem QAt.lt (h : QAt w q F X K) : ∀ b, b ∈ F → b < w.heap.size := by
  obtain ⟨bm, bt, S, g, hM, rfl⟩ := h.ex
  exact hM.lt
theorem QAt.of (h : QAt w q F X K) (e : ∀ b, b ∈ F → w'.heap[b]? = w.heap[b]?) : QAt w' q F X K := by
  obtain ⟨bm, bt, S, g, hM, rfl⟩ := h.ex
  exact ⟨bm, bt, S, g, hM.of e, rfl⟩
theorem QAt.below (h : QAt w q F X K) (k : Below w.heap.size w w') : QAt w' q F X K := h.of fun b hb => k.block b (h.lt b hb)
theorem QAt.ok (h : QAt w q F X K) : X.ok := by
  obtain ⟨bm, bt, S, g, hM, rfl⟩ := h.ex
  exact hM.ok
theorem QAt.mono (h : QAt w q F X K) (hK : K ≤ K') (h2 : K' ≤ 1000000000000000) : QAt w q F X K' := by
  obtain ⟨bm, bt, S, g, hM, rfl⟩ := h.ex
  exact ⟨bm, bt, S, g, hM.mono hK h2, rfl⟩
theorem place_in {L : List En} {e : En} (h : e ∈ L) : place L g e.id = (g e.id : Int) := if_pos (List.mem_map.2 ⟨e, h, rfl⟩)
theorem place_out {L : List En} {i : Int} (h : i ∉ L.map (·.id)) : place L g i = -1 := if_neg h
/-- the blocks are all apart -/
theorem TreeAt.not_map {p : Nat} {ks : List (Int × Int)} (h : TreeAt w p S ks K) {b n : Nat} {f : Int → Int} (hm : MapP w b n f) : b ∉ S := by
  obtain ⟨⟨t, m, a1, rfl, a3, _⟩, hu⟩ := h
  intro hb
  rw [List.mem_cons] at hb
  rcases hb with rfl | hb
  · exact hm.not_blk a1 rfl
  · obtain ⟨cs, hc, _⟩ := node_size a3 b hb
    exact hm.not_blk hc rfl
theorem QMem.apart (h : QMem w q bm bt S g X K) : bm ≠ q ∧ q ∉ S ∧ bm ∉ S ∧ (∀ e, e ∈ X.L → g e.id ≠ q ∧ g e.id ≠ bm ∧ g e.id ∉ S) ∧ ∀ e, e ∈ X.L → ∀ f, f ∈ X.L → e.id ≠ f.id → g e.id ≠ g f.id := by
  refine ⟨h.map.not_blk h.blk, h.tree.not h.blk (by simp) (by simp), h.tree.not_map h.map, fun e he => ⟨Blk.apart (h.ents e he) h.blk (by simp), fun hb => h.map.not_blk (h.ents e he) hb.symm, h.tree.not (h.ents e he) (by simp) (by simp)⟩, fun e he f hf hne => Blk.apart (h.ents e he) (h.ents f hf) ?_⟩
  simp [hne]
end

set_option maxRecDepth 100000 in
theorem qnew_any (w : World) :
    Calls Try.prog 31 #[] w fun e w' => ∃ q F, e = .returned (.pointer (some ⟨q, 0, none⟩)) ∧ Hid (QAt w' q F ⟨[], -1, 0, false⟩ 1 ∧ Below w.heap.size w w' ∧ w.heap.size ≤ q ∧ ∀ b, b ∈ F → w.heap.size ≤ b) := by
  have hmm := @run_makeMap Try.prog
  go_enter Try.func31, Try.ntmps31
  go_wp2_with fail
  refine (tnewt_any _).mono ?_
  rintro e w1 ⟨rfl, HT, hb⟩
  have HB := Lib.hid hb
  clear hb
  go_wp2_with fail
  go_ret
  have T := HT.out
  have B := HB.out
  have hs1 := B.size
  rw [World.size_alloc] at T hs1
  have h0 : MapP w1 w.heap.size 0 (fun _ => -1) := (MapP.made w).of (B.block _ (by simp))
  have hB : Below w.heap.size w w1 := ((Below.refl _ _).alloc (Nat.le_refl _) _).trans (B.mono (by simp))
  refine ⟨w1.heap.size, _, rfl, ⟨⟨w.heap.size, w.heap.size + 1, [w.heap.size + 1], fun _ => 0, ⟨Blk.new _ _ _, h0.of (Below.heap_alloc _ _ _ h0.lt), by simp, T.of (fun b hb => Below.heap_alloc _ _ _ (T.lt b hb)), ⟨by simp, by simp, by simp, .inl rfl, by simp, by simp⟩, by omega, by omega⟩, rfl⟩, hB.alloc (by omega) _, by omega, fun b hb => ?_⟩⟩
  simp [qblocks] at hb
  omega

section
variable {w : World} {q : Nat} {F : List Nat} {X : QS} {K : Int}
theorem qcur_any (h : QAt w q F X K) : Calls Try.prog 69 #[.pointer (some ⟨q, 0, none⟩)] w fun e w' => e = .returned (.int .i64 X.cur) ∧ w = w' := by
  obtain ⟨bm, bt, S, g, hM, rfl⟩ := h.ex
  obtain ⟨c0, c1, c2, c3, c4, c5, cf⟩ := hM.cells
  clear hM h
  go_enter Try.func69, Try.ntmps69
  go_wp2_with fail
  go_ret
  exact ⟨rfl, rfl⟩
theorem qmin_any (h : QAt w q F X K) : Calls Try.prog 35 #[.pointer (some ⟨q, 0, none⟩)] w fun e w' => e = .returned (.int .i64 X.mn) ∧ w = w' := by
  obtain ⟨bm, bt, S, g, hM, rfl⟩ := h.ex
  obtain ⟨c0, c1, c2, c3, c4, c5, cf⟩ := hM.cells
  clear hM h
  go_enter Try.func35, Try.ntmps35
  go_wp2_with fail
  go_ret
  exact ⟨rfl, rfl⟩
theorem qload_any (h : QAt w q F X K) : Calls Try.prog 47 #[.pointer (some ⟨q, 0, none⟩)] w fun e w' => e = .returned (.int .u64 (loadL X.L : Nat)) ∧ w = w' := by
  obtain ⟨bm, bt, S, g, hM, rfl⟩ := h.ex
  obtain ⟨c0, c1, c2, c3, c4, c5, cf⟩ := hM.cells
  clear hM h
  go_enter Try.func47, Try.ntmps47
  go_wp2_with fail
  go_ret
  exact ⟨rfl, rfl⟩
theorem qflag_any (h : QAt w q F X K) : Calls Try.prog 70 #[.pointer (some ⟨q, 0, none⟩)] w fun e w' => e = .returned (.bool X.over) ∧ w = w' := by
  obtain ⟨bm, bt, S, g, hM, rfl⟩ := h.ex
  obtain ⟨c0, c1, c2, c3, c4, c5, cf⟩ := hM.cells
  clear hM h
  go_enter Try.func70, Try.ntmps70
  go_wp2_with fail
  go_ret
  exact ⟨rfl, rfl⟩
end
theorem qcur_nil (w : World) : Calls Try.prog 69 #[.pointer none] w fun e w' => e = .returned (.int .i64 (-1)) ∧ w = w' := by
  go_enter Try.func69, Try.ntmps69
  go_wp2_with fail
  go_ret
  exact ⟨rfl, rfl⟩
theorem qmin_nil (w : World) : Calls Try.prog 35 #[.pointer none] w fun e w' => e = .returned (.int .i64 0) ∧ w = w' := by
  go_enter Try.func35, Try.ntmps35
  go_wp2_with fail
  go_ret
  exact ⟨rfl, rfl⟩
theorem qload_nil (w : World) : Calls Try.prog 47 #[.pointer none] w fun e w' => e = .returned (.int .u64 0) ∧ w = w' := by
  go_enter Try.func47, Try.ntmps47
  go_wp2_with fail
  go_ret
  exact ⟨rfl, rfl⟩
theorem qflag_nil (w : World) : Calls Try.prog 70 #[.pointer none] w fun e w' => e = .returned (.bool false) ∧ w = w' := by
  go_enter Try.func70, Try.ntmps70
  go_wp2_with fail
  go_ret
  exact ⟨rfl, rfl⟩

end Go.Proofs.Ytkemhcokkaanfaa
