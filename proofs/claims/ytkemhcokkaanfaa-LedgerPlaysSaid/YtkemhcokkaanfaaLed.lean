/-
  package ledger: what its functions do to a book.
-/
import Derived.Maps.OwnSet
import Derived.Maps.Ext
import Derived.Carry
import Derived.WalkSpells
import Derived.OpenShut
import Derived.Test.YtkemhcokkaanfaaOnce
import Derived.Test.YtkemhcokkaanfaaTr
namespace Go.Proofs.Ytkemhcokkaanfaa
open Go.RowKit Go.Maps

theorem lawI : Keyed Try.prog 3 := int_keyed Try.underlying3
theorem zero64 (w : World) : (zeroValue 2).run Try.prog w = .ok (.int .i64 0) w := by kernel_rfl
theorem wf64 {n : Int} (h1 : -9223372036854775808 ≤ n) (h2 : n ≤ 9223372036854775807) : (Lit.int .i64 n).wf = true := by
  simp [Lit.wf, IntKind.min, IntKind.max, IntKind.signed, IntKind.bits]
  omega
theorem key64 {n : Int} (h : (Lit.int .i64 n).wf = true) : keyOf Try.prog 3 (.int .i64 n) = some (.int .i64 n) := keyOf_int_mk Try.underlying3 h

/-- block b is a map of at most n entries that holds f -/
def MapF (w : World) (b n : Nat) (f : Int → Int) : Prop :=
  ∃ D : DataW Unit, w.ownsMap Try.prog 3 (plainElem Try.prog 2) b n D ∧ ∀ k, D.atKey (.int .i64 k) (.lit (.int .i64 0)) = .lit (.int .i64 (f k))
def upd (f : Int → Int) (k v : Int) : Int → Int := fun x => if x = k then v else f x
theorem upd_same (f : Int → Int) (k v : Int) : upd f k v k = v := if_pos rfl
theorem upd_other (f : Int → Int) {k x : Int} (v : Int) (h : x ≠ k) : upd f k v x = f x := if_neg h

theorem MapF.of {w w' : World} {b n : Nat} {f : Int → Int} (h : MapF w b n f) (e : w'.heap[b]? = w.heap[b]?) : MapF w' b n f := by
  obtain ⟨D, ⟨es, clock, hb, r⟩, hf⟩ := h
  exact ⟨D, ⟨es, clock, e.trans hb, r⟩, hf⟩
theorem MapF.lt {w : World} {b n : Nat} {f : Int → Int} (h : MapF w b n f) : b < w.heap.size := by
  obtain ⟨D, ⟨es, clock, hb, r⟩, hf⟩ := h
  exact (Array.getElem?_eq_some_iff.1 hb).1
theorem MapF.mono {w : World} {b n m : Nat} {f : Int → Int} (h : MapF w b n f) (hm : n ≤ m) : MapF w b m f := by
  obtain ⟨D, ho, hf⟩ := h
  exact ⟨D, ho.mono hm, hf⟩
set_option maxRecDepth 100000 in
theorem MapF.look {w : World} {b n : Nat} {f : Int → Int} (h : MapF w b n f) {k : Int} (hk : (Lit.int .i64 k).wf = true) : (Instr.lookup 153 (.map (some b)) (.int .i64 k) false).run Try.prog w = .ok (.int .i64 (f k)) w := by
  obtain ⟨D, ho, hf⟩ := h
  obtain ⟨c, hrun, hat, _⟩ := ho.lookup_int lawI Try.underlying153 Try.underlying2 (zero64 _) (key64 hk)
  rw [hf k] at hat
  injection hat with hat
  injection hat with _ hat
  subst hat
  exact hrun
theorem MapF.made (w : World) : MapF (w.alloc (.map #[] 0)) w.heap.size 0 fun _ => 0 := ⟨_, World.ownsMap_made _ _ _ _, fun _ => rfl⟩
theorem MapF.put {w w' : World} {b n m : Nat} {f : Int → Int} {D : DataW Unit} (ho : w.ownsMap Try.prog 3 (plainElem Try.prog 2) b n D) (hf : ∀ k, D.atKey (.int .i64 k) (.lit (.int .i64 0)) = .lit (.int .i64 (f k))) {k v : Int}
    (ho' : w'.ownsMap Try.prog 3 (plainElem Try.prog 2) b m (D.put (.int .i64 k) (.lit (.int .i64 v)))) : MapF w' b m (upd f k v) := by
  refine ⟨_, ho', fun x => ?_⟩
  by_cases e : x = k
  · subst e
    rw [upd_same, atKey_put_same ho.isMap (show WideAt.IsKeyLit (.int .i64 x) from trivial)]
  · rw [upd_other f v e, atKey_put_other (by intro h; injection h with _ h; exact e h)]
    exact hf x
theorem MapF.del {w' : World} {b m : Nat} {f : Int → Int} {D : DataW Unit} (hf : ∀ k, D.atKey (.int .i64 k) (.lit (.int .i64 0)) = .lit (.int .i64 (f k))) {k : Int}
    (ho' : w'.ownsMap Try.prog 3 (plainElem Try.prog 2) b m (D.del (.int .i64 k))) : MapF w' b m (upd f k 0) := by
  refine ⟨_, ho', fun x => ?_⟩
  by_cases e : x = k
  · subst e
    rw [upd_same, atKey_del_same]
  · rw [upd_other f 0 e, atKey_del_other (by intro h; injection h with _ h; exact e h)]
    exact hf x

/-- the cells of a book -/
abbrev bookCells (bt bg : Nat) (tot : Int) : Array Value := #[.map (some bt), .map (some bg), .int .i64 tot]
structure BookAt (w : World) (p bt bg nt ng : Nat) (t g : Int → Int) (tot : Int) : Prop where
  blk : Blk w p (bookCells bt bg tot) 155
  ht : MapF w bt nt t
  hg : MapF w bg ng g
  ne : bt ≠ bg
  tb : ∀ k, 0 ≤ t k ∧ t k ≤ tot
  gb : ∀ k, 0 ≤ g k ∧ g k ≤ tot
  b0 : 0 ≤ tot
  b1 : tot ≤ 9223372036854775807
theorem BookAt.cells {w : World} {p bt bg nt ng : Nat} {t g : Int → Int} {tot : Int} (h : BookAt w p bt bg nt ng t g tot) :
    w.cell? ⟨p, 0, none⟩ = some (.map (some bt)) ∧ w.cell? ⟨p, 1, none⟩ = some (.map (some bg)) ∧ w.cell? ⟨p, 2, none⟩ = some (.int .i64 tot) ∧ ∀ j, w.frozen? ⟨p, j, none⟩ = false :=
  ⟨Blk.cell h.blk 0, Blk.cell h.blk 1, Blk.cell h.blk 2, Blk.frozen h.blk⟩
theorem map_not_blk {w : World} {p b n : Nat} {cs : Array Value} {ty : TypeId} {f : Int → Int} (h : Blk w p cs ty) (k : MapF w b n f) : b ≠ p := by
  rintro rfl
  obtain ⟨D, ⟨es, clock, hb, r⟩, hf⟩ := k
  have := h.symm.trans hb
  simp at this
theorem BookAt.of {w w' : World} {p bt bg nt ng : Nat} {t g : Int → Int} {tot : Int} (h : BookAt w p bt bg nt ng t g tot) (e : ∀ b, b = p ∨ b = bt ∨ b = bg → w'.heap[b]? = w.heap[b]?) : BookAt w' p bt bg nt ng t g tot :=
  ⟨h.blk.of (e p (.inl rfl)), h.ht.of (e bt (.inr (.inl rfl))), h.hg.of (e bg (.inr (.inr rfl))), h.ne, h.tb, h.gb, h.b0, h.b1⟩
theorem BookAt.below {w w' : World} {B p bt bg nt ng : Nat} {t g : Int → Int} {tot : Int} (h : BookAt w p bt bg nt ng t g tot) (k : Below B w w') (hB : w.heap.size ≤ B) : BookAt w' p bt bg nt ng t g tot :=
  h.of fun b hb => k.block b (by
    have h1 := h.blk.lt; have h2 := h.ht.lt; have h3 := h.hg.lt
    rcases hb with rfl | rfl | rfl <;> omega)

set_option maxHeartbeats 400000 in
theorem lnew_any (w : World) :
    Calls Try.prog 39 #[] w fun e w' => e = .returned (.pointer (some ⟨w.heap.size + 2, 0, none⟩)) ∧ BookAt w' (w.heap.size + 2) w.heap.size (w.heap.size + 1) 0 0 (fun _ => 0) (fun _ => 0) 0 ∧ Below w.heap.size w w' ∧ w'.heap.size = w.heap.size + 3 := by
  have hmm := @run_makeMap Try.prog
  go_enter Try.func39, Try.ntmps39
  go_wp2_with fail
  go_ret
  refine ⟨rfl, ?_, ?_, by simp⟩
  · have m1 := MapF.made w
    have m2 := MapF.made (w.alloc (.map #[] 0))
    simp only [World.size_alloc] at m2
    refine ⟨?_, ?_, ?_, by omega, fun k => by simp, fun k => by simp, by omega, by omega⟩
    · have := Blk.new ((w.alloc (.map #[] 0)).alloc (.map #[] 0)) (bookCells w.heap.size (w.heap.size + 1) 0) 155
      simpa using this
    · exact (m1.of (Below.heap_alloc _ _ _ (by simp))).of (Below.heap_alloc _ _ _ (by simp; omega))
    · exact m2.of (Below.heap_alloc _ _ _ (by simp))
  · exact (((Below.refl _ _).alloc (Nat.le_refl _) _).alloc (by simp) _).alloc (by simp; omega) _

set_option maxHeartbeats 400000 in
theorem ltask_any {p bt bg nt ng : Nat} {t g : Int → Int} {tot : Int} (w : World) (h : BookAt w p bt bg nt ng t g tot) (k : Int) (hk : (Lit.int .i64 k).wf = true) :
    Calls Try.prog 50 #[.pointer (some ⟨p, 0, none⟩), .int .i64 k] w fun e w' => e = .returned (.int .i64 (t k)) ∧ w = w' := by
  obtain ⟨c0, c1, c2, cf⟩ := h.cells
  have hl := h.ht.look hk
  generalize t k = v at *
  clear h
  go_enter Try.func50, Try.ntmps50
  go_wp2_with fail
  go_ret
  exact ⟨rfl, rfl⟩
theorem ltask_nil (w : World) (k : Int) :
    Calls Try.prog 50 #[.pointer none, .int .i64 k] w fun e w' => e = .returned (.int .i64 0) ∧ w = w' := by
  go_enter Try.func50, Try.ntmps50
  go_wp2_with fail
  go_ret
  exact ⟨rfl, rfl⟩
set_option maxHeartbeats 400000 in
theorem lgroup_any {p bt bg nt ng : Nat} {t g : Int → Int} {tot : Int} (w : World) (h : BookAt w p bt bg nt ng t g tot) (k : Int) (hk : (Lit.int .i64 k).wf = true) :
    Calls Try.prog 41 #[.pointer (some ⟨p, 0, none⟩), .int .i64 k] w fun e w' => e = .returned (.int .i64 (g k)) ∧ w = w' := by
  obtain ⟨c0, c1, c2, cf⟩ := h.cells
  have hl := h.hg.look hk
  generalize g k = v at *
  clear h
  go_enter Try.func41, Try.ntmps41
  go_wp2_with fail
  go_ret
  exact ⟨rfl, rfl⟩
theorem lgroup_nil (w : World) (k : Int) :
    Calls Try.prog 41 #[.pointer none, .int .i64 k] w fun e w' => e = .returned (.int .i64 0) ∧ w = w' := by
  go_enter Try.func41, Try.ntmps41
  go_wp2_with fail
  go_ret
  exact ⟨rfl, rfl⟩
theorem ltotal_any {p bt bg nt ng : Nat} {t g : Int → Int} {tot : Int} (w : World) (h : BookAt w p bt bg nt ng t g tot) :
    Calls Try.prog 42 #[.pointer (some ⟨p, 0, none⟩)] w fun e w' => e = .returned (.int .i64 tot) ∧ w = w' := by
  obtain ⟨c0, c1, c2, cf⟩ := h.cells
  clear h
  go_enter Try.func42, Try.ntmps42
  go_wp2_with fail
  go_ret
  exact ⟨rfl, rfl⟩
theorem ltotal_nil (w : World) :
    Calls Try.prog 42 #[.pointer none] w fun e w' => e = .returned (.int .i64 0) ∧ w = w' := by
  go_enter Try.func42, Try.ntmps42
  go_wp2_with fail
  go_ret
  exact ⟨rfl, rfl⟩

theorem Turns.cell {S : List Nat} {w w' : World} (h : Turns S w w') {a : Addr} (hb : a.block < w.heap.size) (hn : a.block ∉ S) : w'.cell? a = w.cell? a := by
  have := h.block a.block hb hn
  unfold World.cell?
  rw [this]

set_option maxRecDepth 100000 in
set_option maxHeartbeats 1000000 in
/-- forgetting a task -/
theorem lforget_any {p bt bg nt ng : Nat} {t g : Int → Int} {tot : Int} (w : World) (h : BookAt w p bt bg nt ng t g tot) (k : Int) (hk : (Lit.int .i64 k).wf = true) :
    Calls Try.prog 52 #[.pointer (some ⟨p, 0, none⟩), .int .i64 k] w fun e w' => e = .returned (.int .i64 (t k)) ∧ BookAt w' p bt bg nt ng (upd t k 0) g tot ∧ Turns [p, bt, bg] w w' := by
  have H := Lib.hid h
  have M := Lib.hid (ltask_any w h k hk)
  obtain ⟨D, ho, hf⟩ := h.ht
  have HF := Lib.hid hf
  obtain ⟨c0, c1, c2, cf⟩ := h.cells
  have hkey := key64 hk
  generalize t k = v at M ⊢
  clear h hf
  go_enter Try.func52, Try.ntmps52
  go_wp2_with (first
    | (go_at_call 50; refine M.out.mono ?_; rintro e w' ⟨rfl, rfl⟩)
    | (at_delete; refine wpList_delete_own _ rfl _ _ 153 3 rfl 2 lawI Try.underlying153 _ bt nt D rfl ho _ _ rfl hkey ?_; intro w1 ho1 ht1))
  go_ret
  have hg := ht1.grown
  have h := H.out
  have e : ∀ b, b ≠ bt → b < w.heap.size → w1.heap[b]? = w.heap[b]? := fun b hb hlt => hg.block b hlt (by intro e; injection e with e; exact hb e)
  refine ⟨rfl, ⟨h.blk.of (e p (fun e => map_not_blk h.blk h.ht e.symm) h.blk.lt), MapF.del HF.out ho1, h.hg.of (e bg (Ne.symm h.ne) h.hg.lt), h.ne, fun x => ?_, h.gb, h.b0, h.b1⟩, (Turns.of_grown hg).mono (by simp)⟩
  unfold upd
  have := h.tb x
  have := h.b0
  split <;> omega
theorem lforget_nil (w : World) (k : Int) :
    Calls Try.prog 52 #[.pointer none, .int .i64 k] w fun e w' => e = .returned (.int .i64 0) ∧ w = w' := by
  have M := Lib.hid (ltask_nil w k)
  go_enter Try.func52, Try.ntmps52
  go_wp2_with (go_at_call 50; refine M.out.mono ?_; rintro e w' ⟨rfl, rfl⟩)
  go_ret
  exact ⟨rfl, rfl⟩

end Go.Proofs.Ytkemhcokkaanfaa
