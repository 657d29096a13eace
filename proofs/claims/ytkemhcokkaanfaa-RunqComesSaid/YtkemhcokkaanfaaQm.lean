/-
  A map from numbers to blocks.
-/
import Derived.Test.YtkemhcokkaanfaaMp
import Derived.Test.YtkemhcokkaanfaaRb9
import Derived.Maps.OwnSet
namespace Go.Proofs.Ytkemhcokkaanfaa
open Go.RowKit Go.Maps

/-- how a pointer reads: its block's number; nil: -1 -/
def readP : Value → Option (DataW Unit × List MemPlace)
  | .pointer none => some (.lit (.int .i64 (-1)), [])
  | .pointer (some ⟨b, 0, none⟩) => some (.lit (.int .i64 (b : Int)), [])
  | _ => none
def ptrV (n : Int) : Value := if n < 0 then .pointer none else .pointer (some ⟨n.toNat, 0, none⟩)
theorem readP_inv {v : Value} {n : Int} {ps : List MemPlace} (h : readP v = some (.lit (.int .i64 n), ps)) : v = ptrV n := by
  unfold readP at h
  split at h
  · simp at h
    obtain ⟨rfl, _⟩ := h
    rfl
  · simp at h
    obtain ⟨rfl, _⟩ := h
    unfold ptrV
    rw [if_neg (by omega)]
    simp
  · simp at h

/-- block b is a map of n keys; a key that is there has a block; a key that is not has -1 -/
def MapP (w : World) (b n : Nat) (f : Int → Int) : Prop :=
  ∃ D : DataW Unit, w.ownsMap Try.prog 3 readP b n D ∧ (∀ k, D.atKey (.int .i64 k) (.lit (.int .i64 (-1))) = .lit (.int .i64 (f k))) ∧ (∀ k, has D (.int .i64 k) = decide (f k ≠ -1)) ∧ size D = n
theorem MapP.of {w w' : World} {b n : Nat} {f : Int → Int} (h : MapP w b n f) (e : w'.heap[b]? = w.heap[b]?) : MapP w' b n f := by
  obtain ⟨D, ⟨es, clock, hb, r⟩, hf⟩ := h
  exact ⟨D, ⟨es, clock, e.trans hb, r⟩, hf⟩
theorem MapP.lt {w : World} {b n : Nat} {f : Int → Int} (h : MapP w b n f) : b < w.heap.size := by
  obtain ⟨D, ⟨es, clock, hb, r⟩, hf⟩ := h
  exact (Array.getElem?_eq_some_iff.1 hb).1
theorem MapP.not_blk {w : World} {b n : Nat} {f : Int → Int} (k : MapP w b n f) {p : Nat} {cs : Array Value} {ty : TypeId} (h : Blk w p cs ty) : b ≠ p := by
  rintro rfl
  obtain ⟨D, ⟨es, clock, hb, r⟩, hf⟩ := k
  have := h.symm.trans hb
  simp at this
theorem zeroP (w : World) : (zeroValue 141).run Try.prog w = .ok (.pointer none) w := by kernel_rfl
set_option maxRecDepth 100000 in
theorem MapP.look {w : World} {b n : Nat} {f : Int → Int} (h : MapP w b n f) {k : Int} (hk : (Lit.int .i64 k).wf = true) : (Instr.lookup 135 (.map (some b)) (.int .i64 k) false).run Try.prog w = .ok (ptrV (f k)) w := by
  obtain ⟨D, ho, hf, hh, hs⟩ := h
  obtain ⟨v, ps, hrun, hv⟩ := ho.lookup lawI Try.underlying135 (zeroP _) (zd := .lit (.int .i64 (-1))) (zp := []) rfl (key64 hk)
  rw [hf k] at hv
  rw [readP_inv hv] at hrun
  exact hrun
theorem MapP.made (w : World) : MapP (w.alloc (.map #[] 0)) w.heap.size 0 fun _ => -1 := ⟨_, World.ownsMap_made _ _ _ _, fun _ => rfl, fun _ => by simp [has], rfl⟩
theorem ownsMap_fit {w : World} {b n m : Nat} {D : DataW Unit} (h : w.ownsMap Try.prog 3 readP b n D) (hs : size D = m) : w.ownsMap Try.prog 3 readP b m D := by
  obtain ⟨es, clock, hb, F, _, rfl⟩ := h
  refine ⟨es, clock, hb, F, ?_, rfl⟩
  have : Maps.size (DataW.map ((es.toList.map (WideElems.rg Try.prog 3 readP)).foldr DataW.insert [])) = es.size := by simp [Maps.size, length_sorted]
  omega
theorem MapP.put {w w' : World} {b n : Nat} {f : Int → Int} {D : DataW Unit} (ho : w.ownsMap Try.prog 3 readP b n D) (hf : ∀ k, D.atKey (.int .i64 k) (.lit (.int .i64 (-1))) = .lit (.int .i64 (f k))) (hh : ∀ k, has D (.int .i64 k) = decide (f k ≠ -1)) (hs : size D = n)
    {k : Int} {v : Nat} (hnew : f k = -1) (ho' : w'.ownsMap Try.prog 3 readP b (n + 1) (D.put (.int .i64 k) (.lit (.int .i64 (v : Int))))) : MapP w' b (n + 1) (upd f k v) := by
  have ht := ho.tidy lawI
  refine ⟨_, ho', fun x => ?_, fun x => ?_, ?_⟩
  · by_cases e : x = k
    · subst e
      rw [upd_same, atKey_put_same ht.isMap (show WideAt.IsKeyLit (.int .i64 x) from trivial)]
    · rw [upd_other f _ e, atKey_put_other (by intro h; injection h with _ h; exact e h)]
      exact hf x
  · by_cases e : x = k
    · subst e
      rw [upd_same, has_put_same ht.isMap (show WideAt.IsKeyLit (.int .i64 x) from trivial)]
      exact (decide_eq_true (by omega)).symm
    · rw [upd_other f _ e, has_put_other (by intro h; injection h with _ h; exact e h)]
      exact hh x
  · rw [size_put ht, hh k, hnew, hs]
    simp
theorem MapP.del {w w' : World} {b n : Nat} {f : Int → Int} {D : DataW Unit} (ho : w.ownsMap Try.prog 3 readP b (n + 1) D) (hf : ∀ k, D.atKey (.int .i64 k) (.lit (.int .i64 (-1))) = .lit (.int .i64 (f k))) (hh : ∀ k, has D (.int .i64 k) = decide (f k ≠ -1)) (hs : size D = n + 1)
    {k : Int} (hold : f k ≠ -1) (ho' : w'.ownsMap Try.prog 3 readP b (n + 1) (D.del (.int .i64 k))) : MapP w' b n (upd f k (-1)) := by
  have ht := ho.tidy lawI
  have hsz := size_del (k := .int .i64 k) ht
  rw [hh k, decide_eq_true hold, hs, if_pos rfl] at hsz
  refine ⟨_, ownsMap_fit ho' (by omega), fun x => ?_, fun x => ?_, by omega⟩
  · by_cases e : x = k
    · subst e
      rw [upd_same, atKey_del_same]
    · rw [upd_other f _ e, atKey_del_other (by intro h; injection h with _ h; exact e h)]
      exact hf x
  · by_cases e : x = k
    · subst e
      rw [upd_same, has_del_same]
      rfl
    · rw [upd_other f _ e, has_del_other (by intro h; injection h with _ h; exact e h)]
      exact hh x

end Go.Proofs.Ytkemhcokkaanfaa
