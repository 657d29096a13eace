/-
  ledger.Tasks.
-/
import Derived.Test.YtkemhcokkaanfaaLed3
namespace Go.Proofs.Ytkemhcokkaanfaa
open Go.RowKit Go.Maps Go.Shelf

/-- those that have something, rising -/
structure TasksOf (t : Int → Int) (ss : List Int) : Prop where
  up : ss.Pairwise (· < ·)
  mem : ∀ x, x ∈ ss ↔ t x ≠ 0
  wf : ∀ x, x ∈ ss → (Lit.int .i64 x).wf = true
theorem rising_unique : ∀ {l m : List Int}, l.Pairwise (· < ·) → m.Pairwise (· < ·) → (∀ x, x ∈ l ↔ x ∈ m) → l = m
  | [], [], _, _, _ => rfl
  | [], b :: m, _, _, h => by have := (h b).2 (by simp); simp at this
  | a :: l, [], _, _, h => by have := (h a).1 (by simp); simp at this
  | a :: l, b :: m, hl, hm, h => by
    rw [List.pairwise_cons] at hl hm
    have e : a = b := by
      have h1 := (h a).1 (by simp)
      have h2 := (h b).2 (by simp)
      rw [List.mem_cons] at h1 h2
      rcases h1 with h1 | h1
      · exact h1
      · rcases h2 with h2 | h2
        · exact h2.symm
        · have := hm.1 a h1; have := hl.1 b h2; omega
    subst e
    congr 1
    refine rising_unique hl.2 hm.2 fun x => ?_
    have hx := h x
    rw [List.mem_cons, List.mem_cons] at hx
    constructor
    · intro hxl
      have := hl.1 x hxl
      rcases hx.1 (.inr hxl) with rfl | h3
      · omega
      · exact h3
    · intro hxm
      have := hm.1 x hxm
      rcases hx.2 (.inr hxm) with rfl | h3
      · omega
      · exact h3
theorem TasksOf.unique {t : Int → Int} {l m : List Int} (h : TasksOf t l) (k : TasksOf t m) : l = m := rising_unique h.up k.up fun x => (h.mem x).trans (k.mem x).symm

def nilD (_ : Lit) : DataW Unit → Bool
  | .lit (.int _ v) => v == 0
  | _ => false

theorem same_of_key : ∀ {es : List (Lit × DataW Unit)}, es.Pairwise (fun p q => p.1 ≠ q.1) → ∀ {p q}, p ∈ es → q ∈ es → p.1 = q.1 → p = q
  | [], _, _, _, h, _, _ => by simp at h
  | a :: l, hp, p, q, h1, h2, e => by
    rw [List.pairwise_cons] at hp
    rw [List.mem_cons] at h1 h2
    rcases h1 with rfl | h1
    · rcases h2 with rfl | h2
      · rfl
      · exact absurd e (hp.1 q h2)
    · rcases h2 with rfl | h2
      · exact absurd e.symm (hp.1 p h1)
      · exact same_of_key hp.2 h1 h2 e
theorem has_left {es : List (Lit × DataW Unit)} (hp : es.Pairwise (fun p q => p.1 ≠ q.1)) {f : Int → Int} (hf : ∀ k, (DataW.map es).atKey (.int .i64 k) (.lit (.int .i64 0)) = .lit (.int .i64 (f k))) (x : Int) :
    has (Lib.deleteFuncD nilD (.map es)) (.int .i64 x) = true ↔ f x ≠ 0 := by
  have hx := hf x
  have ex := hx
  simp only [DataW.atKey] at ex
  show (es.filter fun p => !nilD p.1 p.2).any (fun p => p.1.sameKey (.int .i64 x)) = true ↔ _
  have kx : WideAt.IsKeyLit (.int .i64 x) := trivial
  cases hfd : es.find? (fun p => p.1.sameKey (.int .i64 x)) with
  | none =>
    rw [hfd] at ex
    injection ex with ex
    injection ex with _ ex
    rw [List.find?_eq_none] at hfd
    constructor
    · intro h
      rw [List.any_eq_true] at h
      obtain ⟨p, hp', hs⟩ := h
      exact absurd hs (hfd p (List.mem_filter.1 hp').1)
    · intro h; exact absurd ex.symm h
  | some p =>
    rw [hfd] at ex
    have ex : p.2 = .lit (.int .i64 (f x)) := ex
    have hmem := List.mem_of_find?_eq_some hfd
    have hsk := List.find?_some hfd
    have hsk : p.1.sameKey (.int .i64 x) = true := by simpa using hsk
    have hk1 := (WideAt.sameKey_iff kx).1 hsk
    have hn : nilD p.1 p.2 = (f x == 0) := by rw [ex]; rfl
    constructor
    · intro h
      rw [List.any_eq_true] at h
      obtain ⟨q, hq, hs⟩ := h
      obtain ⟨hq1, hq2⟩ := List.mem_filter.1 hq
      have hk2 := (WideAt.sameKey_iff kx).1 hs
      have : q = p := same_of_key hp hq1 hmem (hk2.trans hk1.symm)
      subst this
      rw [hn] at hq2
      simpa using hq2
    · intro h
      rw [List.any_eq_true]
      exact ⟨p, List.mem_filter.2 ⟨hmem, by rw [hn]; simpa using h⟩, hsk⟩

theorem intKeys_facts {w : World} {b n : Nat} {D : DataW Unit} (hown : w.ownsMap Try.prog 3 (plainElem Try.prog 2) b n D) :
    (intKeys D).Nodup ∧ (∀ x, x ∈ intKeys D ↔ has D (.int .i64 x) = true) ∧ ∀ x ∈ intKeys D, (Lit.int .i64 x).wf = true := by
  have hwf := intKeys_wf hown Try.underlying3
  obtain ⟨es, hD, hp, _⟩ := hown.entries lawI
  obtain ⟨es', hD', hko⟩ := hown.keysOf
  obtain rfl : es = es' := by rw [hD] at hD'; simpa using hD'
  subst hD
  have hk : ∀ p ∈ es, ∃ x, p.1 = .int .i64 x := fun p hp => by
    obtain ⟨v, hv⟩ := hko p hp
    obtain ⟨x, _, hx, _⟩ := Maps.keyOf_i64 Try.underlying3 hv
    exact ⟨x, hx⟩
  refine ⟨?_, fun x => ?_, hwf⟩
  · show (es.map fun p => Go.intOf p.1).Nodup
    refine List.pairwise_map.2 (hp.imp_of_mem fun {p q} hp' hq' hne e => hne ?_)
    obtain ⟨a, ha⟩ := hk p hp'
    obtain ⟨b, hb⟩ := hk q hq'
    rw [ha, hb] at e ⊢
    exact congrArg _ e
  · rw [has_eq, List.any_eq_true]
    show x ∈ (es.map fun p => Go.intOf p.1) ↔ _
    rw [List.mem_map]
    constructor
    · rintro ⟨p, hp', rfl⟩
      obtain ⟨a, ha⟩ := hk p hp'
      exact ⟨p, hp', by rw [ha]; simp [Lit.sameKey, Go.intOf]⟩
    · rintro ⟨p, hp', hs⟩
      obtain ⟨a, ha⟩ := hk p hp'
      rw [ha] at hs
      exact ⟨p, hp', by rw [ha]; simpa [Lit.sameKey, Go.intOf] using hs⟩

theorem sortsL (m : Nat) : AnyZI.SortsIn Try.prog Try.sortedL_ren Fence.wide m :=
  ⟨fun blk off cap ss W hH hblk hsz => callsIn_wide.2 (AnyM.slices_Sort_int Try.laysSlM5_f135 blk off cap ss W hH hblk hsz),
   fun p cap W => callsIn_wide.2 (AnyM.slices_Sort_int_none Try.laysSlM5_f135 p cap W)⟩

theorem nil_closure (k : Value) (v : Int) (W : World) : Calls Try.prog 100 (#[k, .int .i64 v] ++ #[]) W fun e w' => e = .returned (.bool (v == 0)) ∧ w' = W := by
  go_enter Try.func100, Try.ntmps100
  go_wp2
  go_ret
  exact ⟨rfl, rfl⟩

theorem del_any (b n : Nat) (D : DataW Unit) (w : World) (hown : w.ownsMap Try.prog 3 (plainElem Try.prog 2) b n D) :
    Calls Try.prog 99 #[.map (some b), .func (.func 100) #[] #[]] w fun e w' =>
      e = .returned (.tuple #[]) ∧ w'.ownsMap Try.prog 3 (plainElem Try.prog 2) b n (Lib.deleteFuncD nilD D) ∧ w.grownBy w' (some b) := by
  have eg : ∀ args w, (callFunc 100 args).run Try.prog w = .ok (.enter 100 args) w := enters_of Try.func100 (by kernel_rfl) rfl
  exact AnyDf.maps_DeleteFunc Try.delL lawI (plainElem Try.prog 2) nilD 100 #[] b n D w eg hown (fun W key val kl yd yp _ _ hv => by
    obtain ⟨c, rfl, hy, _⟩ := plainElem_int_inv Try.underlying2 hv
    obtain rfl : yd = .lit (.int .i64 c) := by simpa using (congrArg Prod.fst hy)
    exact (nil_closure key c W).mono fun _ _ ⟨he, hw⟩ => ⟨he, hw ▸ World.grownBy.refl _ _⟩)

set_option maxRecDepth 100000 in
set_option maxHeartbeats 2000000 in
theorem ltasks_any {p bt bg nt ng : Nat} {t g : Int → Int} {tot : Int} (w : World) (h : BookAt w p bt bg nt ng t g tot) (hnt : nt ≤ 1000000) :
    Calls Try.prog 49 #[.pointer (some ⟨p, 0, none⟩)] w fun e w' => ∃ v ss, e = .returned v ∧ TasksOf t ss ∧ w'.ownsRow w.heap.size 3 1 v ss.length (ss.map zv) ∧ Below w.heap.size w w' := by
  refine (callsIn_wide (n := 6)).1 ?_
  have hro : Fence.wide.round = none := rfl
  obtain ⟨c0, c1, c2, cf⟩ := h.cells
  obtain ⟨D, ho, hf⟩ := h.ht
  have hbt := h.ht.lt
  obtain ⟨es, rfl, hpw, _⟩ := ho.entries lawI
  have hleft := has_left hpw hf
  have HLEFT := Lib.hid hleft
  have cC := (callsIn_wide (n := 6 - 1)).2 (AnyW.maps_Clone_owns Try.cloneL 3 (plainElem Try.prog 2) bt nt (.map es) w ho)
  change CallsIn _ _ Try.prog 98 _ _ _ at cC
  clear h hf hpw hleft
  generalize hDD : Lib.deleteFuncD nilD (.map es) = DD at HLEFT
  have HDEL := Lib.hid fun b n w' h => (callsIn_wide (n := 6 - 1)).2 (del_any b n (.map es) w' h)
  rw [hDD] at HDEL
  have cK : ∀ mb W, CallsIn Fence.wide 5 Try.prog 102 #[.map mb] W fun e w' => e = .returned (.func (.func 136) #[] #[.pointer (some ⟨W.heap.size, 0, none⟩)]) ∧ w' = W.alloc (.cells #[.map mb] 153) :=
    fun mb W => AnyZI.keys_in Try.keysL Fence.wide 5 trivial rfl mb W
  have cS : Hid (∀ (b nn : Nat) (w : World), w.ownsMap Try.prog 3 (plainElem Try.prog 2) b nn DD → nn ≤ 1000000 →
      CallsIn Fence.wide 5 Try.prog 101 #[.func (.func 136) #[] #[.pointer (some ⟨w.heap.size, 0, none⟩)]] (w.alloc (.cells #[.map (some b)] 153)) fun e w' => ∃ (v : Value) (ss : List Int), e = .returned v ∧ ss.Perm (intKeys DD) ∧
        w'.ownsRow (w.alloc (.cells #[.map (some b)] 153)).heap.size 3 1 v ss.length ((ss.mergeSort (fun x y => decide (x ≤ y))).map encZ) ∧ (v = .slice none 0 0 ↔ ss = []) ∧ Below (w.alloc (.cells #[.map (some b)] 153)).heap.size (w.alloc (.cells #[.map (some b)] 153)) w') := by
    refine Lib.hid fun b nn w hown hnn => ?_
    have hsz := hown.size_le
    have hbl := hown.lt
    have hseq : SeqGives Fence.wide 2 Try.prog 136 #[.pointer (some ⟨w.heap.size, 0, none⟩)] encZ (fun ss => ss.Perm (intKeys DD)) (Maps.size DD) (w.alloc (.cells #[.map (some b)] 153)) :=
      AnyZI.keys_gives (ρ := Try.keysL_ren) { Try.keysL with } Fence.wide _ trivial rfl (by omega) w.heap.size b nn DD _ (by simp) (by simp) (by
        obtain ⟨es, clock, hb, Ft, hs, hD⟩ := hown
        exact ⟨es, clock, (Below.heap_alloc _ _ b hbl).trans hb, Ft, hs, hD⟩)
    exact AnyZI.sorted_in Try.sortedL Fence.wide 5 trivial trivial trivial trivial rfl (by omega) (sortsL _) (enters_of Try.func135 (by kernel_rfl) rfl) 136 #[.pointer (some ⟨w.heap.size, 0, none⟩)] trivial (enters_of Try.func136 (by kernel_rfl) rfl) _ _ (by unfold maxLen; omega) (by omega) _ hseq
  have hF1 : Fence.wide.fn 98 := trivial
  have hF2 : Fence.wide.fn 99 := trivial
  have hF3 : Fence.wide.fn 102 := trivial
  have hF4 : Fence.wide.fn 101 := trivial
  refine callsIn_of_wp Try.func49 rfl trivial ?_ hro
  simp only [Try.ntmps49, List.size_toArray, List.length_cons, List.length_nil, Nat.reduceAdd, Nat.reduceSub, Array.replicate_succ, Array.replicate_zero, List.push_toArray, List.append_toArray, List.nil_append, List.cons_append]
  gi_wp2_with (first
    | (gi_at_call 98; refine cC.mono ?_; rintro e w1 ⟨rfl, ho1, _, hb1⟩; clear cC)
    | (gi_at_call 99; refine (HDEL.out _ _ _ ho1).mono ?_; rintro e w2 ⟨rfl, ho2, hg2⟩; clear ho1)
    | (gi_at_call 102; refine (cK _ _).mono ?_; rintro e w3 ⟨rfl, rfl⟩)
    | (gi_at_call 101; refine (cS.out _ _ _ ho2 hnt).mono ?_; rintro e w4 ⟨v, ss, rfl, hperm, hrow, hnil, hb4⟩))
  go_ret
  obtain ⟨hnd, hmem, hwf⟩ := intKeys_facts ho2
  have hms : (ss.mergeSort (fun x y => decide (x ≤ y))) = msort ss := rfl
  rw [hms] at hrow
  have hB2 : Below w.heap.size w w2 := hb1.grown hg2 hb1.size (fun j hj => by cases hj; exact Nat.le_refl _)
  have hz2 := hB2.size
  have hl : (msort ss).length = ss.length := msort_length ss
  refine ⟨v, msort ss, rfl, ⟨?_, fun x => ?_, fun x hx => ?_⟩, ?_, (hB2.alloc hz2 _).trans (hb4.mono (by simp; omega))⟩
  · have h1 := msort_sorted ss
    have h2 : (msort ss).Nodup := (msort_nodup ss).2 (hperm.nodup_iff.2 hnd)
    exact (h1.and h2).imp (fun h => by omega)
  · rw [(msort_perm ss).mem_iff, hperm.mem_iff, hmem]
    exact HLEFT.out x
  · exact hwf x (hperm.mem_iff.1 ((msort_perm ss).mem_iff.1 hx))
  · rw [hl]
    exact ownsRow_base_a hrow (by simp; omega)

end Go.Proofs.Ytkemhcokkaanfaa
